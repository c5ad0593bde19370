import Derived.Test.YtafhnfcahhlanaaLB6
set_option linter.unusedVariables false
set_option linter.unusedSimpArgs false
set_option maxRecDepth 8000
set_option maxHeartbeats 4000000
namespace Go.Proofs.Ytafhnfcahhlanaa
open Go.Sx Go.RowKit
def cornP (p:Prob):List Rat:=cornR (primalM p 1) p.obj.length
def cornQ (p:Prob):List Rat:=cornR (dualM p 1) p.rows.length
def rayP (p:Prob):Option (List Int):=rayM p.obj (raysR (primalM p 1) p.obj.length)
def rayQ (p:Prob):Option (List Int):=rayM (negW p.lim) (raysR (dualM p 1) p.rows.length)
def refSolveM (p:Prob):Sol×Int:=
  if checkM p≠0 then (⟨0,([],0),([],0),[]⟩,1)
  else if (cornP p).length=0 then (⟨2,([],0),(curL (rayQ p),1),[]⟩,0)
  else if (rayP p).isSome=true then (⟨3,cur (bestM (zerosL p.obj.length) (cornP p)),([],0),curL (rayP p)⟩,0)
  else (⟨1,cur (bestM p.obj (cornP p)),cur (bestM (negW p.lim) (cornQ p)),[]⟩,0)
def TameAll (by_:List Int) (C:List Rat):Prop:=∀i,i<C.length→Tame (cAt C i)∧-4611686018427387904<dotL by_ (cAt C i).1∧dotL by_ (cAt C i).1<4611686018427387904
structure FineR (p:Prob):Prop where
  sP:∀set∈chR p.obj.length 0 (primalM p 1).length,Small (primalM p 1) set
  sQ:∀set∈chR p.rows.length 0 (dualM p 1).length,Small (dualM p 1) set
  bP:∀set∈chR (p.obj.length-1) 0 (primalM p 1).length,Bd (lineL (homL (primalM p 1)) set p.obj.length) p.obj.length
  bQ:∀set∈chR (p.rows.length-1) 0 (dualM p 1).length,0<p.rows.length→Bd (lineL (homL (dualM p 1)) set p.rows.length) p.rows.length
  t0:TameAll (zerosL p.obj.length) (cornP p)
  t1:TameAll p.obj (cornP p)
  t2:TameAll (negW p.lim) (cornQ p)
  lP:∀i,i<(cornP p).length→(cAt (cornP p) i).1.length=p.obj.length
  lQ:∀i,i<(cornQ p).length→(cAt (cornQ p) i).1.length=p.rows.length
  cP:(cornP p).length≤1048576
  cQ:(cornQ p).length≤1048576
  rP:∀i,i<(raysR (primalM p 1) p.obj.length).length→((raysR (primalM p 1) p.obj.length).getD i []).length=p.obj.length∧Tame ((raysR (primalM p 1) p.obj.length).getD i [],1)
  rQ:∀i,i<(raysR (dualM p 1) p.rows.length).length→((raysR (dualM p 1) p.rows.length).getD i []).length=p.rows.length∧Tame ((raysR (dualM p 1) p.rows.length).getD i [],1)
  nP:(raysR (primalM p 1) p.obj.length).length≤1048576
  nQ:(raysR (dualM p 1) p.rows.length).length≤1048576
  m0:(cornP p).length=0→0<p.rows.length
  q0:(cornP p).length≠0→(rayP p).isSome=false→0<(cornQ p).length
theorem loC {ι:Type} {val:ι→Value} {S:ι→Nat→Prop} {R:ι→World→Prop} {lo:Nat} {f:FuncId} {args:Array Value} {w:World} (hlo:lo≤w.heap.size) (h:Calls Try.prog f args w fun e w'=>∃i,e=.returned (val i)∧Below w.heap.size w w'∧R i w'∧(∀k,S i k→w.heap.size≤k∧k<w'.heap.size)∧Steady (S i) (R i)):
    Calls Try.prog f args w fun e w'=>∃i,e=.returned (val i)∧Below w.heap.size w w'∧(R i w'∧∀k,S i k→lo≤k)∧(∀k,S i k→w.heap.size≤k∧k<w'.heap.size)∧Steady (S i) (fun w1=>R i w1∧∀k,S i k→lo≤k):=
  h.mono fun e w' ⟨i,e1,hb,hr,hf,hs⟩=>⟨i,e1,hb,⟨hr,fun k hk=>Nat.le_trans hlo (hf k hk).1⟩,hf,fun w1 w2 h1 h2 h3=>⟨hs w1 w2 h1 h2 h3.1,h3.2⟩⟩
theorem bestX (lo:Nat) (C:List Rat) (u:Cho) (B:Option Addr) (cB:Nat) (by_:List Int) (n:Nat) (w:World) (hC:conU C u w) (hlo:lo≤w.heap.size) (hl2:∀k,u.2 k→lo≤k) (hB:RdRow w B by_.length 1 (elI by_)) (hby:by_.length=n) (hn:n≤8) (hC0:0<C.length) (hCl:C.length≤1048576) (hlen:∀i,i<C.length→(cAt C i).1.length=n) (hT:TameAll by_ C):
    Calls Try.prog 47 #[slV C.length (pr1 u),.slice B by_.length cB] w fun e w'=>∃u':Cho,e=.returned (.agg #[slV (cur (bestM by_ C)).1.length u',I (cur (bestM by_ C)).2])∧Below w.heap.size w w'∧newI lo (cur (bestM by_ C)).1 (slV (cur (bestM by_ C)).1.length u') w'∧(∀k,sb (slV (cur (bestM by_ C)).1.length u') k→(w.heap.size≤k∨u.2 k)∧k<w'.heap.size)∧Steady (sb (slV (cur (bestM by_ C)).1.length u')) (newI lo (cur (bestM by_ C)).1 (slV (cur (bestM by_ C)).1.length u')):=by
  obtain⟨hc,_,hS⟩:=hC
  refine (refBest_any (adrK (pr1 u)) B (capN C.length (pr1 u)) cB C (rowU u) by_ n (fun k=>u.2 k) w hc hB hby hn hC0 hCl hlen hT hS).mono ?_
  rintro e w' ⟨u',rfl,hb,hi,hf,hs⟩
  refine⟨u',rfl,hb,?_,hf,newI_steady⟩
  obtain⟨A,c,e,h1,h2⟩:=hi
  refine⟨⟨A,c,e,h1,h2⟩,fun k hk=>?_⟩
  rcases (hf k hk).1 with h|h
  · omega
  · exact hl2 k h
theorem raySX (lo:Nat) (M:List (List Int)) (u:Cho) (B:Option Addr) (cB:Nat) (by_:List Int) (n:Nat) (w:World) (hC:matR M u w) (hlo:lo≤w.heap.size) (hl2:∀k,u.2 k→lo≤k) (hB:RdRow w B by_.length 1 (elI by_)) (hby:by_.length=n) (hn:n≤8) (hCl:M.length≤1048576) (hlen:∀i,i<M.length→(M.getD i []).length=n∧Tame (M.getD i [],1)):
    Calls Try.prog 43 #[slV M.length (pr1 u),.slice B by_.length cB] w fun e w'=>∃u':Cho,e=.returned (.tuple #[slV (curL (rayM by_ M)).length u',.bool (rayM by_ M).isSome])∧Below w.heap.size w w'∧newI lo (curL (rayM by_ M)) (slV (curL (rayM by_ M)).length u') w'∧(∀k,sb (slV (curL (rayM by_ M)).length u') k→(w.heap.size≤k∨u.2 k)∧k<w'.heap.size)∧Steady (sb (slV (curL (rayM by_ M)).length u')) (newI lo (curL (rayM by_ M)) (slV (curL (rayM by_ M)).length u')):=by
  obtain⟨hc,_,hS⟩:=hC
  refine (refRay_any (adrK (pr1 u)) B (capN M.length (pr1 u)) cB M (rowU u) by_ n (fun k=>u.2 k) w hc hB hby hn hCl (fun i hi=>(hlen i hi).1) (fun i hi=>(hlen i hi).2) hS).mono ?_
  rintro e w' ⟨u',rfl,hb,hi,hf,hs⟩
  refine⟨u',rfl,hb,?_,hf,newI_steady⟩
  obtain⟨A,c,e,h1,h2⟩:=hi
  refine⟨⟨A,c,e,h1,h2⟩,fun k hk=>?_⟩
  rcases (hf k hk).1 with h|h
  · omega
  · exact hl2 k h
theorem cornX (lo:Nat) (L:List Cond) (n:Nat) (u:Cho) (w:World) (hlo:lo≤w.heap.size) (hL:conR L u w) (hl:L.length≤20) (hn:n≤20) (hrow:∀c∈L,c.1.length=n) (hsm:∀set∈chR n 0 L.length,Small L set):
    Calls Try.prog 41 #[slV L.length u,I n] w fun e w'=>∃u':Cho,e=.returned (slV (cornR L n).length (pr1 u'))∧Below w.heap.size w w'∧(conU (cornR L n) u' w'∧∀k,u'.2 k→lo≤k)∧(∀k,u'.2 k→w.heap.size≤k∧k<w'.heap.size)∧Steady u'.2 (fun w1=>conU (cornR L n) u' w1∧∀k,u'.2 k→lo≤k):=by
  obtain⟨us,hc,_⟩:=hL
  exact loC hlo (refCorners_any (adrK u) (capN L.length u) n L us w hc hl hn (fun i hi=>hrow _ (cAt_mem hi)) hsm)
theorem raysX (lo:Nat) (L:List Cond) (n:Nat) (u:Cho) (w:World) (hlo:lo≤w.heap.size) (hL:conR L u w) (hl:L.length≤20) (hn0:0<n) (hn:n≤20) (hrow:∀c∈L,c.1.length=n) (hsm:∀set∈chR (n-1) 0 L.length,Bd (lineL (homL L) set n) n):
    Calls Try.prog 44 #[slV L.length u,I n] w fun e w'=>∃u':Cho,e=.returned (slV (raysR L n).length (pr1 u'))∧Below w.heap.size w w'∧(matR (raysR L n) u' w'∧∀k,u'.2 k→lo≤k)∧(∀k,u'.2 k→w.heap.size≤k∧k<w'.heap.size)∧Steady u'.2 (fun w1=>matR (raysR L n) u' w1∧∀k,u'.2 k→lo≤k):=by
  obtain⟨us,hc,_⟩:=hL
  exact loC hlo (refRays_any (adrK u) (capN L.length u) n L us w hc hl hn0 hn (fun i hi=>hrow _ (cAt_mem hi)) hsm)
theorem minusX (lo:Nat) (A:Option Addr) (c:Nat) (l:List Int) (w:World) (hlo:lo≤w.heap.size) (hl:RdRow w A l.length 1 (elI l)) (hn:l.length≤8):
    Calls Try.prog 46 #[.slice A l.length c] w fun e w'=>∃u:Cho,e=.returned (slV l.length u)∧Below w.heap.size w w'∧newI lo (negW l) (slV l.length u) w'∧(∀k,sb (slV l.length u) k→w.heap.size≤k∧k<w'.heap.size)∧Steady (sb (slV l.length u)) (newI lo (negW l) (slV l.length u)):=refMinusC lo hlo hl (by omega)
theorem refSolve_any (p:Prob) (pv:Value) (vs0:Nat→Value) (w:World) (hp:ProbAt w pv p vs0) (h1:p.obj.length≤100000) (h2:p.rows.length≤100000) (h3:p.lim.length≤100000) (h4:∀r∈p.rows,r.length≤100000) (hfine:checkM p=0→FineR p):
    Calls Try.prog 12 #[pv] w fun e w'=>SolA (refSolveM p) w w' e:=by
  have hp0:=hp
  obtain⟨ov,rv,lv,rfl,⟨Ao,co,rfl,ho,hoc⟩,⟨Ar,cr,rfl,hr,hrc,hri⟩,⟨Al,cl,rfl,hl,hlc⟩⟩:=hp
  refine enterSay [] [.agg [.k (.slice Ao p.obj.length co),.k (.slice Ar p.rows.length cr),.k (.slice Al p.lim.length cl)]] [(990,.say (· < w.heap.size) (asOf w))] Try.func12 rfl 74 Try.ntmps12 rfl rfl ⟨⟨trivial,trivial,trivial,trivial⟩,trivial⟩ ⟨⟨asOf.refl w,fun k hk=>hk,steady_asOf w⟩,trivial,trivial⟩ ?_
  refine G.seqR tfine rfl trivial ?_
  refine G.seq ?_
  refine G.seqC tfine rfl trivial ?_
  refine GO.callPlain (v:=I (checkM p)) rfl rfl rfl rfl (fun args w=>Try.call14 args w) (fun ρ w1 hs hok=>refCheck_any p (.agg #[.slice Ao p.obj.length co,.slice Ar p.rows.length cr,.slice Al p.lim.length cl]) vs0 w1 (hp0.below hs.fr.toBelow) h1 h2 h3 h4) ?_
  refine GO.fin tfine rfl trivial ?_
  refine G.cond (b:=checkM p != 0) rfl (fun h=>?_) (fun h=>?_)
  · have h:checkM p≠0:=by simpa using h
    refine G.seqR tfine rfl trivial ?_
    refine G.ret ⟨.inl rfl,fun ρ a w' hs=>⟨_,results_run tfine hs rfl,?_⟩⟩
    rw[refSolveM,if_pos h]
    exact⟨.slice none 0 0,.slice none 0 0,.slice none 0 0,rfl,hs.mem.fr.toBelow,IntsAt.nil _,IntsAt.nil _,IntsAt.nil _,fun k hk=>by rcases hk with hk|hk|hk<;>exact (nil_sb hk).elim⟩
  have hc0:checkM p=0:=by simpa using h
  obtain⟨n0,n3,m4,hll,hrl⟩:=check_ok hc0
  obtain⟨hobj,hlim⟩:=check_obj hc0
  have F:=hfine hc0
  have hob:∀k,k<p.obj.length→W (1*p.obj.getD k 0)=p.obj.getD k 0:=fun k hk=>by
    have:=hobj k hk
    rw[Int.one_mul,W_id (by omega) (by omega)]
  have hpl:(primalM p 1).length≤8:=by rw[primalM_len];omega
  have hql:(dualM p 1).length≤8:=by rw[dualM_len];omega
  refine G.skip ?_
  refine G.seqD tfine hmix [0,1,3,0,8,24,7,127] [] rfl rfl rfl rfl trivial ?_
  refine G.seqC tfine rfl trivial ?_
  refine GO.callSay 830 (slV (primalM p 1).length) (fun u=>u.2) (conR (primalM p 1)) rfl rfl rfl rfl rfl (fun args w=>Try.call42 args w) (fun ρ w1 hs hok=>refPrimal_cho p (.agg #[.slice Ao p.obj.length co,.slice Ar p.rows.length cr,.slice Al p.lim.length cl]) vs0 w1 (hp0.below hs.fr.toBelow) n0 (by omega) (by omega) hll hrl) fun up1=>?_
  refine GO.more tfine rfl trivial ?_
  obtain⟨C,hC⟩:∃C,C=cornP p:=⟨_,rfl⟩
  refine GO.callSay 831 (fun u=>slV C.length (pr1 u)) (fun u=>u.2) (fun u w1=>conU C u w1∧∀k,u.2 k→w.heap.size≤k) rfl rfl rfl rfl rfl (fun args w=>Try.call41 args w) (fun ρ w1 hs hok=>by
    rw[hC]
    exact cornX w.heap.size (primalM p 1) p.obj.length up1 w1 hs.fr.size (hs.ok 830 _ rfl).1 (by omega) (by omega) (primalM_rows p 1 hrl) F.sP) fun uc=>?_
  refine GO.fin tfine rfl trivial ?_
  refine G.weaken (st':=St.of [(1,.v (.c (.ptr 1 0 0 0))),(2,.v (.c (.ptr 2 0 0 0))),(4,.v (.c (.k (I p.obj.length)))),(5,.v (.c (.k (I p.rows.length)))),(6,.v (.c (.k (slV C.length (pr1 uc)))))]
      [(990,.say (· < w.heap.size) (asOf w)),(1,.var 25 [.k (.slice Ao p.obj.length co),.k (.slice Ar p.rows.length cr),.k (.slice Al p.lim.length cl)]),(2,.var 31 [.k (I 0),.k (.slice none 0 0),.k (I 0),.k (.slice none 0 0),.k (I 0),.k (.slice none 0 0)]),(831,.say uc.2 (fun w1=>conU C uc w1∧∀k,uc.2 k→w.heap.size≤k))])
    (St.le_of rfl ⟨⟨_,rfl,Blk.le_refl _⟩,⟨_,rfl,Blk.le_refl _⟩,⟨_,rfl,Blk.le_refl _⟩,⟨_,rfl,Blk.le_refl _⟩,trivial⟩ ⟨rfl,rfl,rfl,rfl,rfl,trivial⟩) ?_
  refine G.seq ?_
  refine G.seqR tfine rfl trivial ?_
  refine G.cond (b:=((C.length:Int)==0)) rfl (fun h=>?_) (fun h=>?_)
  · have hC0:C.length=0:=by
      have h:(C.length:Int)=0:=by simpa using h
      omega
    have hm:=F.m0 (by rw[←hC];exact hC0)
    obtain⟨M,hM⟩:∃M,M=raysR (dualM p 1) p.rows.length:=⟨_,rfl⟩
    obtain⟨o,hoo⟩:∃o,o=rayQ p:=⟨_,rfl⟩
    have hoM:rayM (negW p.lim) M=o:=by rw[hoo,hM];rfl
    refine G.seq ?_
    apply G.drawC (ch:=fun j=>match j with|1=>some (sayF 840 (slV (dualM p 1).length) (fun u=>u.2) (conR (dualM p 1)))|3=>some (sayF 841 (fun u=>slV M.length (pr1 u)) (fun u=>u.2) (fun u w1=>matR M u w1∧∀k,u.2 k→w.heap.size≤k))|6=>some (sayF 842 (slV p.lim.length) (fun u=>sb (slV p.lim.length u)) (fun u=>newI w.heap.size (negW p.lim) (slV p.lim.length u)))|7=>some (sayF 843 (fun u=>.tuple #[slV (curL o).length u,.bool o.isSome]) (fun u=>sb (slV (curL o).length u)) (fun u=>newI w.heap.size (curL o) (slV (curL o).length u)))|_=>none)
      (cls:=[0,1,0,7,0,16,63,127,255,511,511,1023,4095]) (X:=[(1,840),(3,841),(6,842),(7,843)]) hmix rfl rfl rfl
    · intro c
      refine GC.more tfine 0 rfl rfl rfl trivial ?_
      refine GC.choice 1 rfl _ rfl (StepsC.callSay 840 (slV (dualM p 1).length) (fun u=>u.2) (conR (dualM p 1)) rfl rfl rfl rfl rfl (fun args w=>Try.call45 args w) (fun m' hle ρ w1 hs hok=>refDual_cho p (.agg #[.slice Ao p.obj.length co,.slice Ar p.rows.length cr,.slice Al p.lim.length cl]) vs0 w1 (hp0.below hs.fr.toBelow) n0 (by omega) (by omega) hrl hob)) rfl sayF_nm rfl ?_
      refine GC.more tfine 2 rfl rfl rfl trivial ?_
      refine GC.choice 3 rfl _ rfl (StepsC.callSay 841 (fun u=>slV M.length (pr1 u)) (fun u=>u.2) (fun u w1=>matR M u w1∧∀k,u.2 k→w.heap.size≤k) rfl rfl rfl rfl rfl (fun args w=>Try.call44 args w) (fun m' hle ρ w1 hs hok=>by
        rw[hM]
        exact raysX w.heap.size (dualM p 1) p.rows.length (c 1) w1 hs.fr.size (hs.ok 840 _ (hle.at rfl)).1 (by omega) hm (by omega) (dualM_rows p 1) (fun set hs=>F.bQ set hs hm))) rfl sayF_nm rfl ?_
      refine GC.more tfine 4 rfl rfl rfl trivial ?_
      refine GC.choice 6 rfl _ rfl (StepsC.callSay 842 (slV p.lim.length) (fun u=>sb (slV p.lim.length u)) (fun u=>newI w.heap.size (negW p.lim) (slV p.lim.length u)) rfl rfl rfl rfl rfl (fun args w=>Try.call46 args w) (fun m' hle ρ w1 hs hok=>minusX w.heap.size Al cl p.lim w1 hs.fr.size (hl.below hs.fr.toBelow) (by omega))) rfl sayF_nm rfl ?_
      refine GC.choice 7 rfl _ rfl (StepsC.callSayX 841 843 (fun u=>.tuple #[slV (curL o).length u,.bool o.isSome]) (fun u=>sb (slV (curL o).length u)) (fun u=>newI w.heap.size (curL o) (slV (curL o).length u)) rfl rfl rfl rfl rfl rfl (fun args w=>Try.call43 args w) (fun m' hle ρ w1 hs hok=>?_)) rfl sayF_nm rfl ?_
      · obtain⟨x1,_,_⟩:=hs.ok 841 _ (hle.at rfl)
        obtain⟨⟨A8,c8,e8,h9,_⟩,_⟩:=(hs.ok 842 _ (hle.at rfl)).1
        have:=raySX w.heap.size M (c 3) A8 c8 (negW p.lim) p.rows.length w1 x1.1 hs.fr.size x1.2 h9 (by rw[negW_len,hll]) (by omega) (by rw[hM];exact F.nQ) (by rw[hM];exact F.rQ)
        rw[hoM,←e8]at this
        exact this
      refine GC.more tfine 8 rfl rfl rfl trivial ?_
      refine GC.nil ?_
      refine G.seqR tfine rfl trivial ?_
      refine G.ret ⟨.inl rfl,fun ρ a w' hs=>⟨_,results_run tfine hs rfl,?_⟩⟩
      obtain⟨x1,x2,_⟩:=hs.mem.ok 843 _ rfl
      rw[refSolveM,if_neg (by rw[hc0];decide),if_pos (by rw[←hC];exact hC0),←hoo]
      refine⟨.slice none 0 0,slV (curL o).length (c 7),.slice none 0 0,rfl,hs.mem.fr.toBelow,IntsAt.nil _,x1.ints,IntsAt.nil _,fun k hk=>?_⟩
      rcases hk with hk|hk|hk
      · exact (nil_sb hk).elim
      · exact⟨x1.2 k hk,x2 k hk⟩
      · exact (nil_sb hk).elim
    ·
      intro c c' j hj h
      have hj:j<13:=hj
      rcases j with _|_|_|_|_|_|_|_|_|_|_|_|_|j
      all_goals first|rfl|(show some _=some _;(try rw[h 1 (.inl rfl)]);(try rw[h 1 (.inr ⟨rfl,rfl⟩)]);(try rw[h 3 (.inl rfl)]);(try rw[h 3 (.inr ⟨rfl,rfl⟩)]);(try rw[h 6 (.inl rfl)]);(try rw[h 6 (.inr ⟨rfl,rfl⟩)]);(try rw[h 7 (.inl rfl)]);(try rw[h 7 (.inr ⟨rfl,rfl⟩)]);done)|exact absurd hj (by omega)
  have hC0:C.length≠0:=by
    have h:¬(C.length:Int)=0:=by simpa using h
    omega
  refine G.skip ?_
  obtain⟨M,hM⟩:∃M,M=raysR (primalM p 1) p.obj.length:=⟨_,rfl⟩
  obtain⟨o,hoo⟩:∃o,o=rayP p:=⟨_,rfl⟩
  have hoM:rayM p.obj M=o:=by rw[hoo,hM];rfl
  refine G.seq ?_
  apply G.drawC (ch:=fun j=>match j with|1=>some (sayF 840 (slV (primalM p 1).length) (fun u=>u.2) (conR (primalM p 1)))|3=>some (sayF 841 (fun u=>slV M.length (pr1 u)) (fun u=>u.2) (fun u w1=>matR M u w1∧∀k,u.2 k→w.heap.size≤k))|6=>some (sayF 843 (fun u=>.tuple #[slV (curL o).length u,.bool o.isSome]) (fun u=>sb (slV (curL o).length u)) (fun u=>newI w.heap.size (curL o) (slV (curL o).length u)))|_=>none)
    (cls:=[0,1,0,7,0,16,63,127,255,255,511,2047]) (X:=[(1,840),(3,841),(6,843)]) hmix rfl rfl rfl
  · intro c
    refine GC.more tfine 0 rfl rfl rfl trivial ?_
    refine GC.choice 1 rfl _ rfl (StepsC.callSay 840 (slV (primalM p 1).length) (fun u=>u.2) (conR (primalM p 1)) rfl rfl rfl rfl rfl (fun args w=>Try.call42 args w) (fun m' hle ρ w1 hs hok=>refPrimal_cho p (.agg #[.slice Ao p.obj.length co,.slice Ar p.rows.length cr,.slice Al p.lim.length cl]) vs0 w1 (hp0.below hs.fr.toBelow) n0 (by omega) (by omega) hll hrl)) rfl sayF_nm rfl ?_
    refine GC.more tfine 2 rfl rfl rfl trivial ?_
    refine GC.choice 3 rfl _ rfl (StepsC.callSay 841 (fun u=>slV M.length (pr1 u)) (fun u=>u.2) (fun u w1=>matR M u w1∧∀k,u.2 k→w.heap.size≤k) rfl rfl rfl rfl rfl (fun args w=>Try.call44 args w) (fun m' hle ρ w1 hs hok=>by
      rw[hM]
      exact raysX w.heap.size (primalM p 1) p.obj.length (c 1) w1 hs.fr.size (hs.ok 840 _ (hle.at rfl)).1 (by omega) n0 (by omega) (primalM_rows p 1 hrl) F.bP)) rfl sayF_nm rfl ?_
    refine GC.more tfine 4 rfl rfl rfl trivial ?_
    refine GC.choice 6 rfl _ rfl (StepsC.callSayX 841 843 (fun u=>.tuple #[slV (curL o).length u,.bool o.isSome]) (fun u=>sb (slV (curL o).length u)) (fun u=>newI w.heap.size (curL o) (slV (curL o).length u)) rfl rfl rfl rfl rfl rfl (fun args w=>Try.call43 args w) (fun m' hle ρ w1 hs hok=>?_)) rfl sayF_nm rfl ?_
    · obtain⟨x1,_,_⟩:=hs.ok 841 _ (hle.at rfl)
      have:=raySX w.heap.size M (c 3) Ao co p.obj p.obj.length w1 x1.1 hs.fr.size x1.2 (ho.below hs.fr.toBelow) rfl (by omega) (by rw[hM];exact F.nP) (by rw[hM];exact F.rP)
      rw[hoM]at this
      exact this
    refine GC.more tfine 7 rfl rfl rfl trivial ?_
    refine GC.nil ?_
    obtain⟨ud,hud⟩:∃ud,ud=c 6:=⟨_,rfl⟩
    refine G.weaken (st':=St.of [(1,.v (.c (.ptr 1 0 0 0))),(2,.v (.c (.ptr 2 0 0 0))),(4,.v (.c (.k (I p.obj.length)))),(5,.v (.c (.k (I p.rows.length)))),(6,.v (.c (.k (slV C.length (pr1 uc))))),(9,.v (.c (.k (slV (curL o).length ud)))),(10,.v (.c (.k (.bool o.isSome))))]
        [(990,.say (· < w.heap.size) (asOf w)),(1,.var 25 [.k (.slice Ao p.obj.length co),.k (.slice Ar p.rows.length cr),.k (.slice Al p.lim.length cl)]),(2,.var 31 [.k (I 0),.k (.slice none 0 0),.k (I 0),.k (.slice none 0 0),.k (I 0),.k (.slice none 0 0)]),(831,.say uc.2 (fun w1=>conU C uc w1∧∀k,uc.2 k→w.heap.size≤k)),(843,.say (sb (slV (curL o).length ud)) (newI w.heap.size (curL o) (slV (curL o).length ud)))])
      (St.le_of rfl ⟨⟨_,rfl,Blk.le_refl _⟩,⟨_,rfl,Blk.le_refl _⟩,⟨_,rfl,Blk.le_refl _⟩,⟨_,rfl,Blk.le_refl _⟩,⟨_,rfl,by rw[hud];exact Blk.le_refl _⟩,trivial⟩ ⟨rfl,rfl,rfl,rfl,rfl,by rw[hud];rfl,rfl,trivial⟩) ?_
    clear hud
    refine G.seq ?_
    refine G.seqR tfine rfl trivial ?_
    refine G.cond (b:=o.isSome) rfl (fun hd=>?_) (fun hd=>?_)
    · obtain⟨b,hb⟩:∃b,b=bestM (zerosL p.obj.length) C:=⟨_,rfl⟩
      refine G.seqC tfine rfl trivial ?_
      refine GO.steps (Steps.make1 p.obj.length apT35 rfl rfl rfl rfl rfl rfl rfl rfl rfl n0 (by unfold maxLen;omega) (by omega)) ?_
      refine GO.callSayX 831 844 (fun u:Cho=>.agg #[slV (cur b).1.length u,I (cur b).2]) (fun u=>sb (slV (cur b).1.length u)) (fun u=>newI w.heap.size (cur b).1 (slV (cur b).1.length u)) rfl rfl rfl rfl rfl rfl (fun args w=>Try.call47 args w) (fun ρ w1 hs hok=>?_) fun ub=>?_
      · obtain⟨x1,_,_⟩:=hs.ok 831 _ rfl
        have hB:=hs.rdArr (x:=56) rfl 0 p.obj.length (by omega)
        have hzl:(zerosL p.obj.length).length=p.obj.length:=by simp[zerosL]
        have:=bestX w.heap.size C uc (some ⟨(ρ 56).1,(ρ 56).2+0*1,none⟩) p.obj.length (zerosL p.obj.length) p.obj.length w1 x1.1 hs.fr.size x1.2 (by rw[hzl];exact hB.congr fun i hi=>by simp[elI,zerosL,List.getD_eq_getElem?_getD,List.getElem?_replicate,hi]) hzl (by omega) (by omega) (by rw[hC];exact F.cP) (by rw[hC];exact F.lP) (by rw[hC];exact F.t0)
        rw[hzl,←hb]at this
        exact this
      refine GO.fin tfine rfl trivial ?_
      refine G.ret ⟨.inl rfl,fun ρ a w' hs=>⟨_,results_run tfine hs rfl,?_⟩⟩
      obtain⟨x1,x2,_⟩:=hs.mem.ok 843 _ rfl
      obtain⟨y1,y2,_⟩:=hs.mem.ok 844 _ rfl
      rw[refSolveM,if_neg (by rw[hc0];decide),if_neg (by rw[←hC];exact hC0),if_pos (by rw[←hoo];exact hd),←hoo,←hC,←hb]
      refine⟨slV (cur b).1.length ub,.slice none 0 0,slV (curL o).length ud,rfl,hs.mem.fr.toBelow,y1.ints,IntsAt.nil _,x1.ints,fun k hk=>?_⟩
      rcases hk with hk|hk|hk
      · exact⟨y1.2 k hk,y2 k hk⟩
      · exact (nil_sb hk).elim
      · exact⟨x1.2 k hk,x2 k hk⟩
    refine G.skip ?_
    have hq0:=F.q0 (by rw[←hC];exact hC0) (by rw[←hoo];exact hd)
    obtain⟨Q,hQ⟩:∃Q,Q=cornQ p:=⟨_,rfl⟩
    obtain⟨y,hy⟩:∃y,y=bestM (negW p.lim) Q:=⟨_,rfl⟩
    obtain⟨b,hb⟩:∃b,b=bestM p.obj C:=⟨_,rfl⟩
    refine G.weaken (st':=St.of [(1,.v (.c (.ptr 1 0 0 0))),(2,.v (.c (.ptr 2 0 0 0))),(4,.v (.c (.k (I p.obj.length)))),(5,.v (.c (.k (I p.rows.length)))),(6,.v (.c (.k (slV C.length (pr1 uc)))))]
        [(990,.say (· < w.heap.size) (asOf w)),(1,.var 25 [.k (.slice Ao p.obj.length co),.k (.slice Ar p.rows.length cr),.k (.slice Al p.lim.length cl)]),(2,.var 31 [.k (I 0),.k (.slice none 0 0),.k (I 0),.k (.slice none 0 0),.k (I 0),.k (.slice none 0 0)]),(831,.say uc.2 (fun w1=>conU C uc w1∧∀k,uc.2 k→w.heap.size≤k))])
      (St.le_of rfl ⟨⟨_,rfl,Blk.le_refl _⟩,⟨_,rfl,Blk.le_refl _⟩,⟨_,rfl,Blk.le_refl _⟩,⟨_,rfl,Blk.le_refl _⟩,trivial⟩ ⟨rfl,rfl,rfl,rfl,rfl,trivial⟩) ?_
    refine G.seq ?_
    apply G.drawC (ch:=fun j=>match j with|1=>some (sayF 840 (slV (dualM p 1).length) (fun u=>u.2) (conR (dualM p 1)))|3=>some (sayF 841 (fun u=>slV Q.length (pr1 u)) (fun u=>u.2) (fun u w1=>conU Q u w1∧∀k,u.2 k→w.heap.size≤k))|6=>some (sayF 842 (slV p.lim.length) (fun u=>sb (slV p.lim.length u)) (fun u=>newI w.heap.size (negW p.lim) (slV p.lim.length u)))|7=>some (sayF 843 (fun u=>.agg #[slV (cur y).1.length u,I (cur y).2]) (fun u=>sb (slV (cur y).1.length u)) (fun u=>newI w.heap.size (cur y).1 (slV (cur y).1.length u)))|_=>none)
      (cls:=[0,1,0,7,0,16,63,127,0,511]) (X:=[(1,840),(3,841),(6,842),(7,843),(9,11)]) hmix rfl rfl rfl
    · intro c
      refine GC.more tfine 0 rfl rfl rfl trivial ?_
      refine GC.choice 1 rfl _ rfl (StepsC.callSay 840 (slV (dualM p 1).length) (fun u=>u.2) (conR (dualM p 1)) rfl rfl rfl rfl rfl (fun args w=>Try.call45 args w) (fun m' hle ρ w1 hs hok=>refDual_cho p (.agg #[.slice Ao p.obj.length co,.slice Ar p.rows.length cr,.slice Al p.lim.length cl]) vs0 w1 (hp0.below hs.fr.toBelow) n0 (by omega) (by omega) hrl hob)) rfl sayF_nm rfl ?_
      refine GC.more tfine 2 rfl rfl rfl trivial ?_
      refine GC.choice 3 rfl _ rfl (StepsC.callSay 841 (fun u=>slV Q.length (pr1 u)) (fun u=>u.2) (fun u w1=>conU Q u w1∧∀k,u.2 k→w.heap.size≤k) rfl rfl rfl rfl rfl (fun args w=>Try.call41 args w) (fun m' hle ρ w1 hs hok=>by
        rw[hQ]
        exact cornX w.heap.size (dualM p 1) p.rows.length (c 1) w1 hs.fr.size (hs.ok 840 _ (hle.at rfl)).1 (by omega) (by omega) (dualM_rows p 1) F.sQ)) rfl sayF_nm rfl ?_
      refine GC.more tfine 4 rfl rfl rfl trivial ?_
      refine GC.choice 6 rfl _ rfl (StepsC.callSay 842 (slV p.lim.length) (fun u=>sb (slV p.lim.length u)) (fun u=>newI w.heap.size (negW p.lim) (slV p.lim.length u)) rfl rfl rfl rfl rfl (fun args w=>Try.call46 args w) (fun m' hle ρ w1 hs hok=>minusX w.heap.size Al cl p.lim w1 hs.fr.size (hl.below hs.fr.toBelow) (by omega))) rfl sayF_nm rfl ?_
      refine GC.choice 7 rfl _ rfl (StepsC.callSayX 841 843 (fun u=>.agg #[slV (cur y).1.length u,I (cur y).2]) (fun u=>sb (slV (cur y).1.length u)) (fun u=>newI w.heap.size (cur y).1 (slV (cur y).1.length u)) rfl rfl rfl rfl rfl rfl (fun args w=>Try.call47 args w) (fun m' hle ρ w1 hs hok=>?_)) rfl sayF_nm rfl ?_
      · obtain⟨x1,_,_⟩:=hs.ok 841 _ (hle.at rfl)
        obtain⟨⟨A8,c8,e8,h9,_⟩,_⟩:=(hs.ok 842 _ (hle.at rfl)).1
        have:=bestX w.heap.size Q (c 3) A8 c8 (negW p.lim) p.rows.length w1 x1.1 hs.fr.size x1.2 h9 (by rw[negW_len,hll]) (by omega) (by rw[hQ];exact hq0) (by rw[hQ];exact F.cQ) (by rw[hQ];exact F.lQ) (by rw[hQ];exact F.t2)
        rw[←hy,←e8]at this
        exact this
      refine GC.more tfine 8 rfl rfl rfl trivial ?_
      refine GC.nil ?_
      obtain⟨uy,huy⟩:∃uy,uy=c 7:=⟨_,rfl⟩
      refine G.weaken (st':=St.of [(1,.v (.c (.ptr 1 0 0 0))),(2,.v (.c (.ptr 2 0 0 0))),(6,.v (.c (.k (slV C.length (pr1 uc))))),(11,.v (.c (.ptr 11 0 0 0)))]
          [(990,.say (· < w.heap.size) (asOf w)),(1,.var 25 [.k (.slice Ao p.obj.length co),.k (.slice Ar p.rows.length cr),.k (.slice Al p.lim.length cl)]),(2,.var 31 [.k (I 0),.k (.slice none 0 0),.k (I 0),.k (.slice none 0 0),.k (I 0),.k (.slice none 0 0)]),(831,.say uc.2 (fun w1=>conU C uc w1∧∀k,uc.2 k→w.heap.size≤k)),(11,.var 29 [.k (slV (cur y).1.length uy),.k (I (cur y).2)]),(843,.say (sb (slV (cur y).1.length uy)) (newI w.heap.size (cur y).1 (slV (cur y).1.length uy)))])
        (St.le_of rfl ⟨⟨_,rfl,Blk.le_refl _⟩,⟨_,rfl,Blk.le_refl _⟩,⟨_,rfl,Blk.le_refl _⟩,⟨_,rfl,Blk.le_refl _⟩,⟨_,rfl,by rw[huy];exact Blk.le_refl _⟩,⟨_,rfl,by rw[huy];exact Blk.le_refl _⟩,trivial⟩ ⟨rfl,rfl,rfl,rfl,trivial⟩) ?_
      clear huy
      refine G.seq ?_
      apply G.drawC (ch:=fun j=>match j with|3=>some (sayF 849 (fun u=>.agg #[slV (cur b).1.length u,I (cur b).2]) (fun u=>sb (slV (cur b).1.length u)) (fun u=>newI w.heap.size (cur b).1 (slV (cur b).1.length u)))|_=>none)
        (cls:=[0,0,2,7,0,31,63,127]) (X:=[(3,849),(6,2)]) hmix rfl rfl rfl
      · intro c
        refine GC.more tfine 0 rfl rfl rfl trivial ?_
        refine GC.choice 3 rfl _ rfl (StepsC.callSayX 831 849 (fun u=>.agg #[slV (cur b).1.length u,I (cur b).2]) (fun u=>sb (slV (cur b).1.length u)) (fun u=>newI w.heap.size (cur b).1 (slV (cur b).1.length u)) rfl rfl rfl rfl rfl rfl (fun args w=>Try.call47 args w) (fun m' hle ρ w1 hs hok=>?_)) rfl sayF_nm rfl ?_
        · obtain⟨x1,_,_⟩:=hs.ok 831 _ (hle.at rfl)
          have:=bestX w.heap.size C uc Ao co p.obj p.obj.length w1 x1.1 hs.fr.size x1.2 (ho.below hs.fr.toBelow) rfl (by omega) (by omega) (by rw[hC];exact F.cP) (by rw[hC];exact F.lP) (by rw[hC];exact F.t1)
          rw[←hb]at this
          exact this
        refine GC.more tfine 4 rfl rfl rfl trivial ?_
        refine GC.nil ?_
        refine G.ret ⟨.inl rfl,fun ρ a w' hs=>⟨_,results_run tfine hs rfl,?_⟩⟩
        obtain⟨x1,x2,_⟩:=hs.mem.ok 849 _ rfl
        obtain⟨y1,y2,_⟩:=hs.mem.ok 843 _ rfl
        rw[refSolveM,if_neg (by rw[hc0];decide),if_neg (by rw[←hC];exact hC0),if_neg (by rw[←hoo,hd];decide),←hC,←hb,←hQ,←hy]
        refine⟨slV (cur b).1.length (c 3),slV (cur y).1.length uy,.slice none 0 0,rfl,hs.mem.fr.toBelow,x1.ints,y1.ints,IntsAt.nil _,fun k hk=>?_⟩
        rcases hk with hk|hk|hk
        · exact⟨x1.2 k hk,x2 k hk⟩
        · exact⟨y1.2 k hk,y2 k hk⟩
        · exact (nil_sb hk).elim
      ·
        intro c c' j hj h
        have hj:j<8:=hj
        rcases j with _|_|_|_|_|_|_|_|j
        all_goals first|rfl|(show some _=some _;(try rw[h 3 (.inl rfl)]);(try rw[h 3 (.inr ⟨rfl,rfl⟩)]);done)|exact absurd hj (by omega)
    ·
      intro c c' j hj h
      have hj:j<10:=hj
      rcases j with _|_|_|_|_|_|_|_|_|_|j
      all_goals first|rfl|(show some _=some _;(try rw[h 1 (.inl rfl)]);(try rw[h 1 (.inr ⟨rfl,rfl⟩)]);(try rw[h 3 (.inl rfl)]);(try rw[h 3 (.inr ⟨rfl,rfl⟩)]);(try rw[h 6 (.inl rfl)]);(try rw[h 6 (.inr ⟨rfl,rfl⟩)]);(try rw[h 7 (.inl rfl)]);(try rw[h 7 (.inr ⟨rfl,rfl⟩)]);done)|exact absurd hj (by omega)
  ·
    intro c c' j hj h
    have hj:j<12:=hj
    rcases j with _|_|_|_|_|_|_|_|_|_|_|_|j
    all_goals first|rfl|(show some _=some _;(try rw[h 1 (.inl rfl)]);(try rw[h 1 (.inr ⟨rfl,rfl⟩)]);(try rw[h 3 (.inl rfl)]);(try rw[h 3 (.inr ⟨rfl,rfl⟩)]);(try rw[h 6 (.inl rfl)]);(try rw[h 6 (.inr ⟨rfl,rfl⟩)]);done)|exact absurd hj (by omega)
end Go.Proofs.Ytafhnfcahhlanaa
set_option maxHeartbeats 2000000
namespace Go.Proofs.Ytafhnfcahhlanaa
open Go.Sx Go.RowKit
open Go.Lp (S D dt sg ex ry)
theorem ch_in:∀(t fr m:Nat) (p:Nat→Bool),((List.range' fr t).filter p).length=m→cI ((List.range' fr t).filter p)∈chR m fr (fr+t)
  |0,fr,m,p,h=>by
    have h:m=0:=by simpa using h.symm
    subst h
    simp[chR,cI]
  |t+1,fr,m,p,h=>by
    rw[List.range'_succ]at h ⊢
    cases hp:p fr with
    |true=>
      rw[List.filter_cons_of_pos hp]at h ⊢
      obtain⟨m',rfl⟩:∃m',m=m'+1:=⟨m-1,by simp at h;omega⟩
      have ih:=ch_in t (fr+1) m' p (by simpa using h)
      refine List.mem_flatMap.2 ⟨fr,List.mem_range'_1.2 ⟨Nat.le_refl _,by omega⟩,List.mem_map.2 ⟨_,?_,rfl⟩⟩
      rw[show fr+(t+1)=fr+1+t by omega]
      exact ih
    |false=>
      rw[List.filter_cons_of_neg (by rw[hp];decide)]at h ⊢
      have ih:=ch_in t (fr+1) m p h
      cases m with
      |zero=>
        have:(List.range' (fr+1) t).filter p=[]:=List.length_eq_zero_iff.1 h
        rw[this]
        simp[chR,cI]
      |succ m=>
        obtain⟨i,hi,hl⟩:=List.mem_flatMap.1 ih
        have hi:=List.mem_range'_1.1 hi
        refine List.mem_flatMap.2 ⟨i,List.mem_range'_1.2 ⟨by omega,by omega⟩,?_⟩
        rw[show fr+(t+1)=fr+1+t by omega]
        exact hl
theorem ch_out:∀(m fr t:Nat) (l:List Int),l∈chR m fr (fr+t)→∃p:Nat→Bool,l=cI ((List.range' fr t).filter p)∧((List.range' fr t).filter p).length=m
  |0,fr,t,l,h=>by
    have h:l=[]:=by simpa[chR] using h
    subst h
    exact⟨fun _=>false,by simp[cI],by simp⟩
  |m+1,fr,t,l,h=>by
    obtain⟨i,hi,hl⟩:=List.mem_flatMap.1 h
    have hi:=List.mem_range'_1.1 hi
    obtain⟨l',hl',rfl⟩:=List.mem_map.1 hl
    obtain⟨d,hd⟩:∃d,i=fr+d:=⟨i-fr,by omega⟩
    obtain⟨s,hs⟩:∃s,t=d+(1+s):=⟨t-d-1,by omega⟩
    subst hd hs
    rw[show fr+(d+(1+s))=fr+d+1+s by omega]at hl'
    obtain⟨p',e1,e2⟩:=ch_out m (fr+d+1) s l' hl'
    have key:(List.range' fr (d+(1+s))).filter (fun j=>decide (j=fr+d)||(decide (fr+d<j)&&p' j))=(fr+d)::(List.range' (fr+d+1) s).filter p':=by
      rw[←List.range'_append_1,List.filter_append,Nat.add_comm 1 s,List.range'_succ]
      have e3:(List.range' fr d).filter (fun j=>decide (j=fr+d)||(decide (fr+d<j)&&p' j))=[]:=by
        rw[List.filter_eq_nil_iff]
        intro a ha
        have:=List.mem_range'_1.1 ha
        simp
        omega
      rw[e3,List.nil_append,List.filter_cons_of_pos (by simp)]
      congr 1
      refine List.filter_congr fun a ha=>?_
      have:=List.mem_range'_1.1 ha
      rw[decide_eq_false (by omega),decide_eq_true (show fr+d<a by omega)]
      rfl
    refine⟨_,?_,by rw[key,List.length_cons,e2]⟩
    rw[key,e1]
    rfl
theorem ch_same (N k:Nat) (set:List Int):set∈chR k 0 N↔set∈chooseM N k:=by
  constructor
  · intro h
    obtain⟨p,e1,e2⟩:=ch_out k 0 N set (by rw[Nat.zero_add];exact h)
    rw[←List.range_eq_range']at e1 e2
    rw[e1]
    exact choose_all N k p e2
  · intro h
    obtain⟨p,e1,e2⟩:=choose_nat h
    have:=ch_in N 0 k p (by rw[←List.range_eq_range'];exact e2)
    rw[←List.range_eq_range',Nat.zero_add,←e1]at this
    exact this
def rst (cols:List Nat) (r:List Int):List Int:=cols.map fun c=>r.getD c 0
theorem rst_erase (cols:List Nat) (k:Nat) (r:List Int):(rst cols r).eraseIdx k=rst (cols.eraseIdx k) r:=by
  unfold rst
  induction cols generalizing k with
  |nil=>rfl
  |cons c cols ih=>
    cases k with
    |zero=>rfl
    |succ k=>simp only[List.map_cons,List.eraseIdx_cons_succ,ih]
theorem rst_get {cols:List Nat} {r:List Int} {k:Nat} (h:k<cols.length):(rst cols r).getD k 0=fn r (cols.getD k 0):=by
  simp[rst,fn,List.getD_eq_getElem?_getD,List.getElem?_map,List.getElem?_eq_getElem h]
theorem detW_D:∀(M:List (List Int)) (cols:List Nat),M.length=cols.length→M.length≤4→small M cols→detW M.length (M.map (rst cols))=D (M.map fn) cols
  |[],cols,hl,_,_=>by
    have:cols=[]:=List.length_eq_zero_iff.1 hl.symm
    subst this
    rfl
  |r::M,cols,hl,h4,hs=>by
    have hl:M.length+1=cols.length:=hl
    have h4:M.length+1≤4:=h4
    show (detU (detW M.length) (rst cols r::M.map (rst cols)) (M.length+1)).1=ex (fn r) (D (M.map fn)) cols
    rw[ex,←hl]
    have hF:=fct_nn M.length
    have hF2:=fct_le (m:=M.length) (by omega)
    have key:∀k,k≤cols.length→(detU (detW M.length) (rst cols r::M.map (rst cols)) k).2=sg k∧(detU (detW M.length) (rst cols r::M.map (rst cols)) k).1=S k (fun k=>sg k*(fn r (cols.getD k 0)*D (M.map fn) (cols.eraseIdx k)))∧-(k*1000*fct M.length)≤S k (fun k=>sg k*(fn r (cols.getD k 0)*D (M.map fn) (cols.eraseIdx k)))∧S k (fun k=>sg k*(fn r (cols.getD k 0)*D (M.map fn) (cols.eraseIdx k)))≤k*1000*fct M.length:=by
      intro k
      induction k with
      |zero=>exact fun _=>⟨rfl,rfl,by simp[S],by simp[S]⟩
      |succ k ih=>
        intro hk
        obtain⟨i1,i2,i3,i4⟩:=ih (by omega)
        have hkc:cols.getD k 0∈cols:=by
          rw[List.getD_eq_getElem?_getD,List.getElem?_eq_getElem (by omega)]
          exact List.getElem_mem (by omega)
        obtain⟨b1,b2⟩:=hs r List.mem_cons_self _ hkc
        have hle:M.length=(cols.eraseIdx k).length:=by rw[List.length_eraseIdx_of_lt (by omega)];omega
        have hse:small M (cols.eraseIdx k):=fun r' hr' c hc=>hs r' (List.mem_cons_of_mem _ hr') c (List.mem_of_mem_eraseIdx hc)
        have ihd:=detW_D M (cols.eraseIdx k) hle (by omega) hse
        obtain⟨_,d2,d3⟩:=detC_D M (cols.eraseIdx k) hle (by omega) hse
        have hsm:(M.map (rst cols)).map (fun r=>r.eraseIdx k)=M.map (rst (cols.eraseIdx k)):=by
          rw[List.map_map]
          exact List.map_congr_left fun r _=>rst_erase cols k r
        obtain⟨m1,m2⟩:=mul_bound (A:=1000) (B:=fct M.length) b1 b2 d2 d3
        have hkk:(k:Int)≤3:=by omega
        have e0:((k:Int)+1)*1000*fct M.length=k*1000*fct M.length+1000*fct M.length:=by grind
        have e1:(k:Int)*1000*fct M.length≤3000*fct M.length:=by
          have:0≤(3-(k:Int))*(1000*fct M.length):=Int.mul_nonneg (by omega) (by omega)
          grind
        have hg0:((rst cols r::M.map (rst cols)).getD 0 []).getD k 0=r.getD (cols.getD k 0) 0:=rst_get (by omega)
        simp only[S,detU,List.tail_cons]
        rw[hg0,hsm,ihd,i1,i2]
        have hfn:fn r (cols.getD k 0)=r.getD (cols.getD k 0) 0:=rfl
        rw[hfn]at *
        generalize r.getD (cols.getD k 0) 0=x at *
        generalize D (M.map fn) (cols.eraseIdx k)=y at *
        generalize hSk:S k (fun k=>sg k*(fn r (cols.getD k 0)*D (M.map fn) (cols.eraseIdx k)))=s at *
        generalize fct M.length=F at *
        have hterm:W (W (sg k*x)*y)=sg k*(x*y)∧-(1000*F)≤sg k*(x*y)∧sg k*(x*y)≤1000*F:=by
          rcases sg_one k with h|h
          · rw[h,Int.one_mul,Int.one_mul,show W x=x from W_id (by omega) (by omega),show W (x*y)=x*y from W_id (by omega) (by omega)]
            exact⟨rfl,m1,m2⟩
          · rw[h,show (-1:Int)*x = -x by omega,show (-1:Int)*(x*y) = -(x*y) by omega,show W (-x) = -x from W_id (by omega) (by omega),Int.neg_mul,show W (-(x*y)) = -(x*y) from W_id (by omega) (by omega)]
            exact⟨rfl,by omega,by omega⟩
        refine⟨?_,?_,?_,?_⟩
        · rw[sg_succ]
          rcases sg_one k with h|h<;>rw[h]<;>rfl
        · rw[hterm.1,W_id (by omega) (by omega)]
        · show -(((k:Int)+1)*1000*F)≤_
          rw[e0];omega
        · show _≤((k:Int)+1)*1000*F
          rw[e0];omega
    exact (key (M.length+1) (by omega)).2.1
end Go.Proofs.Ytafhnfcahhlanaa
namespace Go.Proofs.Ytafhnfcahhlanaa
open Go.Sx Go.RowKit
open Go.Lp (S D dt sg ex ry)
theorem getD_ext {a b:List Int} (hl:a.length=b.length) (h:∀j,j<a.length→a.getD j 0=b.getD j 0):a=b:=by
  refine List.ext_getElem hl fun j h1 h2=>?_
  have:=h j h1
  rwa [List.getD_eq_getElem?_getD,List.getD_eq_getElem?_getD,List.getElem?_eq_getElem h1,List.getElem?_eq_getElem h2]at this
theorem rst_id {r:List Int} {n:Nat} (h:r.length=n):rst (List.range n) r=r:=by
  refine getD_ext (by simp[rst,h]) fun j hj=>?_
  have hj:j<n:=by simpa[rst] using hj
  rw[rst_get (by simpa using hj),fn,Go.Lp.getD_range hj]
theorem setD_self {l:List Int} {v d:Int} {j:Nat} (h:j<l.length):(l.set j v).getD j d=v:=by
  rw[List.getD_eq_getElem?_getD,List.getElem?_set_self h];rfl
theorem setN_self {l:List Nat} {v d:Nat} {j:Nat} (h:j<l.length):(l.set j v).getD j d=v:=by
  rw[List.getD_eq_getElem?_getD,List.getElem?_set_self h];rfl
theorem rst_set {r:List Int} {B:Int} {n k:Nat} (h:r.length=n) (hk:k<n):rst ((List.range n).set k n) (r++[B])=r.set k B:=by
  refine getD_ext (by simp[rst,h]) fun j hj=>?_
  have hj:j<n:=by simpa[rst] using hj
  rw[rst_get (by simpa using hj),fn]
  by_cases e:j=k
  · subst e
    rw[setN_self (by simpa using hk),setD_self (by omega),←h]
    simp[List.getD_eq_getElem?_getD]
  · have:((List.range n).set k n).getD j 0=j:=by
      simp[List.getD_eq_getElem?_getD,List.getElem?_set,Ne.symm e,List.getElem?_range hj]
    rw[this,List.getD_eq_getElem?_getD,List.getElem?_append_left (by omega)]
    simp[List.getD_eq_getElem?_getD,List.getElem?_set,Ne.symm e]
theorem cI_len (l:List Nat):(cI l).length=l.length:=by simp[cI]
theorem Lk.rows {L:List Cond} {P:Lp.Sys} (k:Lk L P) (p:Nat→Bool):rowsR L (cI (P.idx p))=(P.idx p).map fun i=>(cAt L i).1:=rows_map L (fun c=>c.1) _
theorem Lk.smallA {L:List Cond} {P:Lp.Sys} (k:Lk L P) (p:Nat→Bool) (cols:List Nat) (hc:∀c∈cols,c<P.n):small ((P.idx p).map fun i=>(cAt L i).1) cols∧D (((P.idx p).map fun i=>(cAt L i).1).map fn) cols=D ((P.idx p).map P.A) cols:=by
  constructor
  · intro r hr c hcc
    obtain⟨i,hi,rfl⟩:=List.mem_map.1 hr
    have hi:=(idx_lt hi).1
    rw[k.A i hi c (hc c hcc)]
    exact k.sA i hi c (hc c hcc)
  · rw[List.map_map]
    exact D_congr _ _ _ _ fun i hi c hcc=>k.A i (idx_lt hi).1 c (hc c hcc)
theorem Lk.ptD {L:List Cond} {P:Lp.Sys} (k:Lk L P) {p:Nat→Bool} (hp:(P.idx p).length=P.n):ptD L (cI (P.idx p))=dP P p:=by
  have h4:=k.n4
  obtain⟨s1,s2⟩:=k.smallA p (List.range P.n) fun c hc=>List.mem_range.1 hc
  have e:=detW_D ((P.idx p).map fun i=>(cAt L i).1) (List.range P.n) (by simp[hp]) (by rw[List.length_map];omega) s1
  rw[s2,List.length_map]at e
  rw[Go.Proofs.Ytafhnfcahhlanaa.ptD,cI_len,k.rows]
  show _=D ((P.idx p).map P.A) (List.range P.n)
  rw[←e]
  congr 1
  rw[List.map_map]
  refine List.map_congr_left fun i hi=>?_
  exact (rst_id (k.len i (idx_lt hi).1)).symm
theorem Lk.ptN {L:List Cond} {P:Lp.Sys} (k:Lk L P) {p:Nat→Bool} (hp:(P.idx p).length=P.n) {j:Nat} (hj:j<P.n):(ptNums L (cI (P.idx p))).getD j 0=dK P p j:=by
  have h4:=k.n4
  have hs:small ((P.idx p).map fun i=>(cAt L i).1++[(cAt L i).2]) ((List.range P.n).set j P.n):=by
    intro r hr c hcc
    obtain⟨i,hi,rfl⟩:=List.mem_map.1 hr
    have hi:=(idx_lt hi).1
    have hc:=set_mem hcc (Nat.le_refl _)
    have:=k.getA hi hc
    unfold fn at this
    rw[this]
    unfold exA
    split
    · exact k.sB i hi
    · exact k.sA i hi c (by omega)
  have e2:D (((P.idx p).map fun i=>(cAt L i).1++[(cAt L i).2]).map fn) ((List.range P.n).set j P.n)=dK P p j:=by
    rw[List.map_map]
    exact D_congr _ _ _ _ fun i hi c hcc=>k.getA (idx_lt hi).1 (set_mem hcc (Nat.le_refl _))
  have e:=detW_D ((P.idx p).map fun i=>(cAt L i).1++[(cAt L i).2]) ((List.range P.n).set j P.n) (by simp[hp]) (by rw[List.length_map];omega) hs
  rw[e2,List.length_map]at e
  have hcl:(cI (P.idx p)).length=P.n:=by rw[cI_len,hp]
  have e3:(ptNums L (cI (P.idx p))).getD j 0=detW (P.idx p).length (ptCol L (cI (P.idx p)) j):=by
    rw[ptNums,cI_len]
    simp[List.getD_eq_getElem?_getD,List.getElem?_map,List.getElem?_range (show j<(P.idx p).length by omega)]
  rw[e3,←e]
  congr 1
  rw[ptCol,List.map_map,cI,List.map_map]
  refine List.map_congr_left fun i hi=>?_
  show (cAt L ((i:Int)).toNat).1.set j (cAt L ((i:Int)).toNat).2=rst _ _
  rw[Int.toNat_natCast,rst_set (k.len i (idx_lt hi).1) hj]
theorem ptNums_len (L:List Cond) (set:List Int):(ptNums L set).length=set.length:=by simp[ptNums]
theorem Lk.keepP {L:List Cond} {P:Lp.Sys} (k:Lk L P) {p:Nat→Bool} (hp:(P.idx p).length=P.n):keepP L (cI (P.idx p))=cornerM L P.n (cI (P.idx p)):=by
  obtain⟨o1,o2,o3⟩:=k.over hp
  have hD:=k.ptD hp
  have hcl:(cI (P.idx p)).length=P.n:=by rw[cI_len,hp]
  rw[Go.Proofs.Ytafhnfcahhlanaa.keepP,cornerM,o1,pointM,hD]
  by_cases hd:dP P p=0
  · rw[if_pos hd,if_pos hd]
  rw[if_neg hd,if_neg hd]
  have s:=sign_of o2 o3 hd
  obtain⟨hl,hn⟩:=k.nums hp hd
  have key:∀nums over,nums=cornN L P.n (cI (P.idx p))→over=absW (dP P p)→(match (some (lowL nums over,lowO nums over):Option Rat) with|none=>none|some r=>if keepsM L r.1 r.2=true then some r else none)=if keepsM L (cornN L P.n (cI (P.idx p))) (absW (dP P p))=true then some (lowL (cornN L P.n (cI (P.idx p))) (absW (dP P p)),lowO (cornN L P.n (cI (P.idx p))) (absW (dP P p))) else none:=by
    rintro nums over rfl rfl
    simp only
    rw[s.1]
    obtain⟨g,g0,g1,g2,g3,g4⟩:=low_spec (l:=cornN L P.n (cI (P.idx p))) (o:=((dP P p).natAbs:Int)) (fun j hj=>by
      obtain⟨a,b,c⟩:=hn j (by omega)
      rw[a];omega) (by omega) (by omega)
    rw[hl]at g4
    have e:keepsM L (lowL (cornN L P.n (cI (P.idx p))) ((dP P p).natAbs:Int)) (lowO (cornN L P.n (cI (P.idx p))) ((dP P p).natAbs:Int))=keepsM L (cornN L P.n (cI (P.idx p))) ((dP P p).natAbs:Int):=by
      rw[Bool.eq_iff_iff,k.keeps (fun j hj=>by
        have a:=g4 j hj
        obtain⟨b,c,d⟩:=hn j hj
        rw[b]at a
        omega) (by omega) (by omega),k.keeps (fun j hj=>by
        obtain⟨a,b,c⟩:=hn j hj
        rw[a];omega) (by omega) (by omega)]
      have sc:∀i,dt P.n (P.A i) (fn (cornN L P.n (cI (P.idx p))))=g*dt P.n (P.A i) (fn (lowL (cornN L P.n (cI (P.idx p))) ((dP P p).natAbs:Int))):=fun i=>by
        rw[←Go.Lp.dt_mul_right]
        exact dt_congr (fun _ _=>rfl) fun j hj=>by
          have:=(g4 j hj).1
          show (cornN L P.n (cI (P.idx p))).getD j 0=g*(lowL _ _).getD j 0
          rw[←this,Int.mul_comm]
      have sb:∀i,P.B i*((dP P p).natAbs:Int)=g*(P.B i*lowO (cornN L P.n (cI (P.idx p))) ((dP P p).natAbs:Int)):=fun i=>by
        calc P.B i*((dP P p).natAbs:Int)=P.B i*(lowO (cornN L P.n (cI (P.idx p))) ((dP P p).natAbs:Int)*g):=by rw[g1]
          _=_:=by grind
      constructor
      · intro h i hi
        rw[sc,sb]
        exact Int.mul_le_mul_of_nonneg_left (h i hi) (Int.le_of_lt g0)
      · intro h i hi
        have:=h i hi
        rw[sc,sb]at this
        exact Int.le_of_mul_le_mul_left this g0
    rw[e]
  by_cases hneg:dP P p<0
  · rw[if_pos hneg]
    refine key _ _ ?_ ?_
    · refine getD_ext (by rw[negW_len,ptNums_len,hcl,hl]) fun j hj=>?_
      rw[negW_len,ptNums_len,hcl]at hj
      obtain⟨a,b,c⟩:=hn j hj
      have hsg:(dP P p).sign = -1:=Int.sign_eq_neg_one_of_neg hneg
      rw[hsg]at a b c
      rw[negW_get _ _ (by rw[ptNums_len,hcl];exact hj),k.ptN hp hj,a,W_id (by omega) (by omega)]
      omega
    · rw[s.1,W_id (by omega) (by omega)];omega
  · rw[if_neg hneg]
    refine key _ _ ?_ ?_
    · refine getD_ext (by rw[ptNums_len,hcl,hl]) fun j hj=>?_
      rw[ptNums_len,hcl]at hj
      obtain⟨a,b,c⟩:=hn j hj
      have hsg:(dP P p).sign=1:=Int.sign_eq_one_of_pos (by omega)
      rw[hsg]at a
      rw[k.ptN hp hj,a];omega
    · rw[s.1];omega
theorem Lk.smallS {L:List Cond} {P:Lp.Sys} (k:Lk L P):∀set∈chR P.n 0 L.length,Small L set:=by
  intro set hs
  obtain⟨p,e,hp⟩:=choose_nat ((ch_same _ _ _).1 hs)
  rw[←k.N]at e hp
  have e:set=cI (P.idx p):=e
  have hp:(P.idx p).length=P.n:=hp
  subst e
  obtain⟨o1,o2,o3⟩:=k.over hp
  have hcl:(cI (P.idx p)).length=P.n:=by rw[cI_len,hp]
  refine⟨by rw[k.ptD hp];exact⟨o2,o3⟩,fun j hj=>?_⟩
  rw[hcl]at hj
  rw[k.ptN hp hj]
  have h:=k.det p ((List.range P.n).set j P.n) (by rw[hp,List.length_set,List.length_range]) (by rw[List.length_set,List.length_range];exact k.n4) fun c hc=>set_mem hc (Nat.le_refl _)
  exact h.2
theorem Lk.cornR {L:List Cond} {P:Lp.Sys} (k:Lk L P) (r:Rat):r∈cornR L P.n↔r∈cornersM L P.n:=by
  rw[Go.Proofs.Ytafhnfcahhlanaa.cornR,cornersM,List.mem_filterMap,List.mem_filterMap]
  have key:∀set,set∈chooseM L.length P.n→Go.Proofs.Ytafhnfcahhlanaa.keepP L set=cornerM L P.n set:=fun set hs=>by
    obtain⟨p,e,hp⟩:=choose_nat hs
    rw[←k.N]at e hp
    have e:set=cI (P.idx p):=e
    subst e
    exact k.keepP hp
  constructor
  · rintro⟨set,h1,h2⟩
    have h1:=(ch_same _ _ _).1 h1
    exact⟨set,h1,by rw[←key set h1];exact h2⟩
  · rintro⟨set,h1,h2⟩
    exact⟨set,(ch_same _ _ _).2 h1,by rw[key set h1];exact h2⟩
theorem lnS_sg:∀k,lnS k=sg k
  |0=>rfl
  |k+1=>by
    rw[lnS,lnS_sg k,sg_succ]
    rcases sg_one k with h|h<;>rw[h]<;>rfl
theorem Lk.lnX {L:List Cond} {P:Lp.Sys} (k:Lk L P) {p:Nat→Bool} (hp:(P.idx p).length+1=P.n) {j:Nat} (hj:j<P.n):lnX L (cI (P.idx p)) j=ry ((P.idx p).map P.A) P.n j∧-(bR P.n)≤ry ((P.idx p).map P.A) P.n j∧ry ((P.idx p).map P.A) P.n j≤bR P.n:=by
  have h4:=k.n4
  have hcm:∀c∈(List.range P.n).eraseIdx j,c<P.n:=fun c hc=>List.mem_range.1 (List.mem_of_mem_eraseIdx hc)
  have hcl:((List.range P.n).eraseIdx j).length=(P.idx p).length:=by
    rw[List.length_eraseIdx_of_lt (by rw[List.length_range];exact hj),List.length_range];omega
  obtain⟨s1,s2⟩:=k.smallA p _ hcm
  have e:=detW_D ((P.idx p).map fun i=>(cAt L i).1) ((List.range P.n).eraseIdx j) (by rw[List.length_map,hcl]) (by rw[List.length_map];omega) s1
  rw[s2,List.length_map]at e
  have e3:lnM L (cI (P.idx p)) j=((P.idx p).map fun i=>(cAt L i).1).map (rst ((List.range P.n).eraseIdx j)):=by
    rw[lnM,cI,List.map_map,List.map_map]
    refine List.map_congr_left fun i hi=>?_
    show (cAt L ((i:Int)).toNat).1.eraseIdx j=rst _ _
    rw[Int.toNat_natCast,←rst_erase,rst_id (k.len i (idx_lt hi).1)]
  obtain⟨r1,r2,r3⟩:=k.ryX hp hj
  have hbR:=bR_in P.n
  refine⟨?_,r2,r3⟩
  rw[Go.Proofs.Ytafhnfcahhlanaa.lnX,cI_len,e3,e,lnS_sg]
  show W (ry ((P.idx p).map P.A) P.n j)=_
  rw[W_id (by omega) (by omega)]
theorem Lk.keeps0' {L:List Cond} {P:Lp.Sys} (k:Lk L P) (hB:∀i,i<P.N→P.B i=0) {nums:List Int} (h1:∀j,j<P.n→-24000000000000≤nums.getD j 0∧nums.getD j 0≤24000000000000):keepsM L nums 1=true↔P.dir (fn nums):=by
  rw[k.keeps (fun j hj=>by have:=h1 j hj;omega) (by decide) (by decide)]
  constructor
  · intro h i hi
    have:=h i hi
    rw[hB i hi]at this
    omega
  · intro h i hi
    have:=h i hi
    rw[hB i hi]
    omega
theorem divN_gK {l:List Int} (hb:∀j,j<l.length→-9223372036854775808<l.getD j 0∧l.getD j 0≤9223372036854775807):∀k,k≤l.length→divN l k=gK l k
  |0,_=>rfl
  |k+1,hk=>by rw[divN,gK,divN_gK hb k (by omega),absW_nat (hb k (by omega)).1 (hb k (by omega)).2]
theorem sm_iff {L:List Cond} {set:List Int} {n:Nat}:∀k,k≤n→(smN L set k=true↔gK (lineL L set n) k≠0)
  |0,_=>⟨fun h=>(by cases h),fun h=>absurd rfl h⟩
  |k+1,hk=>by
    have ih:=sm_iff (L:=L) (set:=set) (n:=n) k (by omega)
    rw[smN,gK,Bool.or_eq_true,ih,lineL_get _ _ _ _ (by omega),ne_eq,ne_eq,Nat.gcd_eq_zero_iff,bne_iff_ne]
    omega
theorem Lk.rayOf {L:List Cond} {P:Lp.Sys} (k:Lk L P) (hB:∀i,i<P.N→P.B i=0) {p:Nat→Bool} (hp:(P.idx p).length+1=P.n):rayOfR L P.n (cI (P.idx p))=raysOf L P.n (cI (P.idx p))∧Bd (lineL L (cI (P.idx p)) P.n) P.n:=by
  have hbR:=bR_in P.n
  have hll:(lineL L (cI (P.idx p)) P.n).length=P.n:=by simp[lineL]
  have hrl:rayL (rowsR L (cI (P.idx p))) P.n=lineL L (cI (P.idx p)) P.n:=by
    refine getD_ext (by rw[rayL_len,hll]) fun j hj=>?_
    rw[rayL_len]at hj
    rw[rayL_get _ _ _ hj,(k.ryX hp hj).1,lineL_get _ _ _ _ hj,(k.lnX hp hj).1]
  have hbd:Bd (lineL L (cI (P.idx p)) P.n) P.n:=⟨hll,fun j hj=>by
    rw[lineL_get _ _ _ _ hj]
    have:=k.lnX hp hj
    rw[this.1]
    omega⟩
  refine⟨?_,hbd⟩
  obtain⟨dl,hdl⟩:∃dl,dl=lineL L (cI (P.idx p)) P.n:=⟨_,rfl⟩
  have hsm:=sm_iff (L:=L) (set:=cI (P.idx p)) (n:=P.n) P.n (Nat.le_refl _)
  have hg:divM (rayL (rowsR L (cI (P.idx p))) P.n)=gK dl P.n:=by
    rw[hrl,divM,hll,hdl]
    exact divN_gK (fun j hj=>by have:=hbd.2 j (by omega);omega) _ (by omega)
  rw[rayOfR,raysOf,rayOk,rayOk,ray0,ray1,hg,hrl,←hdl]
  rw[←hdl]at hsm hbd
  by_cases h0:gK dl P.n=0
  · rw[if_neg (by rw[hsm,h0];simp),h0]
    rfl
  rw[if_pos (hsm.2 h0),decide_eq_true (show ((gK dl P.n:Nat):Int)>0 by omega),Bool.true_and,Bool.true_and]
  have hmx:max1 ((gK dl P.n:Nat):Int)=((gK dl P.n:Nat):Int):=by
    unfold max1
    split<;>omega
  have part:∀el:List Int,Bd el P.n→gK el P.n=gK dl P.n→partR L P.n el=(bif keepsM L (divX ((gK dl P.n:Nat):Int) el) 1 then [divX ((gK dl P.n:Nat):Int) el] else []):=fun el hel hge=>by
    have e1:divX ((gK dl P.n:Nat):Int) el=shL el (gK dl P.n):=by rw[divX,hmx,shL]
    rw[partR,hge,e1]
    have hdv:∀j,j<P.n→((gK dl P.n:Nat):Int)∣el.getD j 0:=fun j hj=>by
      rw[←hge,←divN_gK (l:=el) (fun j hj=>by have:=hel.2 j (by rw[←hel.1];exact hj);omega) P.n (by rw[hel.1];exact Nat.le_refl _)]
      exact divN_dvd (l:=el) P.n (by rw[hel.1];exact Nat.le_refl _) (fun j hj=>by have:=hel.2 j (by rw[←hel.1];exact hj);omega) j hj
    have hsg:∀j,j<P.n→(shL el (gK dl P.n)).getD j 0*((gK dl P.n:Nat):Int)=el.getD j 0∧-24000000000000≤(shL el (gK dl P.n)).getD j 0∧(shL el (gK dl P.n)).getD j 0≤24000000000000:=fun j hj=>by
      have b:=hel.2 j hj
      have t:=tdiv_dvd (x:=el.getD j 0) (g:=((gK dl P.n:Nat):Int)) (by omega) (hdv j hj) (by omega) (by omega)
      have:(shL el (gK dl P.n)).getD j 0=W ((el.getD j 0).tdiv ((gK dl P.n:Nat):Int)):=by
        simp[shL,List.getD_eq_getElem?_getD,List.getElem?_map,List.getElem?_eq_getElem (show j<el.length by rw[hel.1];exact hj)]
      rw[this]
      omega
    have e:keepsM L (shL el (gK dl P.n)) 1=keepsM L el 1:=by
      rw[Bool.eq_iff_iff,k.keeps0' hB (fun j hj=>(hsg j hj).2),k.keeps0' hB hel.2]
      have sc:∀i,dt P.n (P.A i) (fn el)=((gK dl P.n:Nat):Int)*dt P.n (P.A i) (fn (shL el (gK dl P.n))):=fun i=>by
        rw[←Go.Lp.dt_mul_right]
        exact dt_congr (fun _ _=>rfl) fun j hj=>by
          show el.getD j 0=_*(shL el (gK dl P.n)).getD j 0
          rw[←(hsg j hj).1,Int.mul_comm]
      constructor
      · intro h i hi
        rw[sc]
        exact Int.mul_nonneg (by omega) (h i hi)
      · intro h i hi
        have:=h i hi
        rw[sc]at this
        exact Int.nonneg_of_mul_nonneg_right this (by omega)
    rw[e]
    cases keepsM L el 1<;>rfl
  rw[part dl hbd rfl,part (negW dl) hbd.neg (gK_neg hbd P.n (Nat.le_refl _))]
end Go.Proofs.Ytafhnfcahhlanaa
namespace Go.Proofs.Ytafhnfcahhlanaa
open Go.Sx Go.RowKit
open Go.Lp (S D dt sg ex ry)
def fstep {α:Type} (lt:α→α→Bool) (o:Option α) (x:α):Option α:=match o with
  |none=>some x
  |some c=>if lt x c=true then some x else some c
theorem fold_res {α:Type} (lt:α→α→Bool) (Q:α→Prop) (irr:∀x,Q x→lt x x=false) (tr:∀x y z,Q x→Q y→Q z→lt x y=true→lt y z=true→lt x z=true):
    ∀s:List α,(∀x∈s,Q x)→(s=[]∧s.foldl (fstep lt) none=none)∨∃b∈s,s.foldl (fstep lt) none=some b∧∀x∈s,lt x b=false:=by
  have key:∀s:List α,(∀x∈s,Q x)→(s=[]∧s.reverse.foldl (fstep lt) none=none)∨∃b∈s,s.reverse.foldl (fstep lt) none=some b∧∀x∈s,lt x b=false:=by
    intro s
    induction s with
    |nil=>exact fun _=>.inl ⟨rfl,rfl⟩
    |cons y s ih=>
      intro hs
      right
      rw[List.reverse_cons,List.foldl_append]
      have hy:=hs y List.mem_cons_self
      rcases ih (fun x h=>hs x (List.mem_cons_of_mem _ h)) with⟨e,hn⟩|⟨b,hm,hb,hmin⟩
      · rw[hn]
        refine⟨y,List.mem_cons_self,rfl,fun x hx=>?_⟩
        rw[e]at hx
        have:x=y:=by simpa using hx
        rw[this];exact irr y hy
      · rw[hb]
        have hbQ:=hs b (List.mem_cons_of_mem _ hm)
        cases hl:lt y b with
        |true=>
          refine⟨y,List.mem_cons_self,by simp[fstep,hl],fun x hx=>?_⟩
          rcases List.mem_cons.1 hx with rfl|hx
          · exact irr x hy
          · cases hxy:lt x y with
            |false=>rfl
            |true=>
              have:=tr x y b (hs x (List.mem_cons_of_mem _ hx)) hy hbQ hxy hl
              rw[hmin x hx]at this
              cases this
        |false=>
          refine⟨b,List.mem_cons_of_mem _ hm,by simp[fstep,hl],fun x hx=>?_⟩
          rcases List.mem_cons.1 hx with rfl|hx
          · exact hl
          · exact hmin x hx
  intro s hs
  have:=key s.reverse (by simpa using hs)
  simpa using this
theorem fold_same {α:Type} (lt:α→α→Bool) (Q:α→Prop) (irr:∀x,Q x→lt x x=false) (tr:∀x y z,Q x→Q y→Q z→lt x y=true→lt y z=true→lt x z=true) (tri:∀x y,Q x→Q y→lt x y=false→lt y x=false→x=y)
    (xs ys:List α) (hx:∀x∈xs,Q x) (h:∀x,x∈xs↔x∈ys):xs.foldl (fstep lt) none=ys.foldl (fstep lt) none:=by
  rcases fold_res lt Q irr tr xs hx with⟨e1,e2⟩|⟨b,hb,e1,e2⟩
  · have:ys=[]:=List.eq_nil_iff_forall_not_mem.2 fun a ha=>by
      have:=(h a).2 ha
      rw[e1]at this
      cases this
    rw[e2,this];rfl
  · rcases fold_res lt Q irr tr ys (fun x hx'=>hx x ((h x).2 hx')) with⟨f1,f2⟩|⟨c,hc,f1,f2⟩
    · have:=(h b).1 hb
      rw[f1]at this
      cases this
    · rw[e1,f1]
      congr 1
      exact tri b c (hx b hb) (hx c ((h c).2 hc)) (f2 b ((h b).1 hb)) (e2 c ((h c).2 hc))
theorem cmp_neg {v w o q:Int} (h1 : -4611686018427387904<v) (h2:v<4611686018427387904) (h3:1≤o) (h4:o<4611686018427387904) (h5 : -4611686018427387904<w) (h6:w<4611686018427387904) (h7:1≤q) (h8:q<4611686018427387904):
    cmpM v o w q<0↔v*q<w*o:=by
  have c1:=cmp_pos h1 h2 h3 h4 h5 h6 h7 h8
  have c2:=cmp_zero h1 h2 h3 h4 h5 h6 h7 h8
  rw[beq_iff_eq]at c2
  constructor
  · intro hlt
    rcases Int.lt_trichotomy (v*q) (w*o) with h|h|h
    · exact h
    · have:=c2.2 h;omega
    · have:=c1.2 h;omega
  · intro hlt
    rcases Int.lt_trichotomy (cmpM v o w q) 0 with h|h|h
    · exact h
    · have:=c2.1 h;omega
    · have:=c1.1 h;omega
def LtR (n:Nat) (x c:Rat):Prop:=∃k,k<n∧(∀j,j<k→x.1.getD j 0*c.2=c.1.getD j 0*x.2)∧x.1.getD k 0*c.2<c.1.getD k 0*x.2
theorem LtR.irr {n:Nat} {x:Rat} (h:LtR n x x):False:=by
  obtain⟨k,_,_,h⟩:=h
  exact Int.lt_irrefl _ h
theorem eq_tr {a b c o q s:Int} (hq:0<q) (h1:a*q=b*o) (h2:b*s=c*q):a*s=c*o:=by
  refine Int.eq_of_mul_eq_mul_right (show q≠0 by omega) ?_
  calc a*s*q=a*q*s:=by grind
    _=b*s*o:=by rw[h1];grind
    _=c*o*q:=by rw[h2];grind
theorem lt_tr {a b c o q s:Int} (ho:0<o) (hq:0<q) (hs:0<s) (h1:a*q≤b*o) (h2:b*s≤c*q) (h:a*q<b*o∨b*s<c*q):a*s<c*o:=by
  refine Int.lt_of_mul_lt_mul_right (a:=q) ?_ (by omega)
  have e1:a*s*q=a*q*s:=by grind
  have e2:b*s*o=b*o*s:=by grind
  have e3:c*o*q=c*q*o:=by grind
  rw[e1,e3]
  have g1:a*q*s≤b*o*s:=Int.mul_le_mul_of_nonneg_right h1 (by omega)
  have g2:b*s*o≤c*q*o:=Int.mul_le_mul_of_nonneg_right h2 (by omega)
  rcases h with h|h
  · have:=Int.mul_lt_mul_of_pos_right h hs
    omega
  · have:=Int.mul_lt_mul_of_pos_right h ho
    omega
theorem LtR.tr {n:Nat} {x y z:Rat} (hx:0<x.2) (hy:0<y.2) (hz:0<z.2) (h1:LtR n x y) (h2:LtR n y z):LtR n x z:=by
  obtain⟨k,k1,k2,k3⟩:=h1
  obtain⟨m,m1,m2,m3⟩:=h2
  rcases Nat.lt_trichotomy k m with h|h|h
  · refine⟨k,k1,fun j hj=>eq_tr hy (k2 j hj) (m2 j (by omega)),lt_tr hx hy hz (Int.le_of_lt k3) (Int.le_of_eq (m2 k h)) (.inl k3)⟩
  · subst h
    exact⟨k,k1,fun j hj=>eq_tr hy (k2 j hj) (m2 j hj),lt_tr hx hy hz (Int.le_of_lt k3) (Int.le_of_lt m3) (.inl k3)⟩
  · refine⟨m,m1,fun j hj=>eq_tr hy (k2 j (by omega)) (m2 j hj),lt_tr hx hy hz (Int.le_of_eq (k2 m h)) (Int.le_of_lt m3) (.inr m3)⟩
theorem LtR.tri {n:Nat} {x y:Rat} (h1:¬LtR n x y) (h2:¬LtR n y x):∀j,j<n→x.1.getD j 0*y.2=y.1.getD j 0*x.2:=by
  intro j
  induction j using Nat.strongRecOn with
  |ind j ih=>
    intro hj
    rcases Int.lt_trichotomy (x.1.getD j 0*y.2) (y.1.getD j 0*x.2) with h|h|h
    · exact (h1 ⟨j,hj,fun i hi=>ih i hi (by omega),h⟩).elim
    · exact h
    · exact (h2 ⟨j,hj,fun i hi=>(ih i hi (by omega)).symm,h⟩).elim
def Fit (r:Rat):Prop:=Tame r∧1≤r.2
theorem ordN_lt {a b:Rat} (ha:Fit a) (hb:Fit b) (hl:a.1.length=b.1.length):∀m k,k+m=a.1.length→(ordN a.1 a.2 b.1 b.2 k m<0↔∃i,k≤i∧i<a.1.length∧(∀j,k≤j→j<i→a.1.getD j 0*b.2=b.1.getD j 0*a.2)∧a.1.getD i 0*b.2<b.1.getD i 0*a.2)
  |0,k,h=>by
    constructor
    · intro h;cases h
    · rintro⟨i,h1,h2,_⟩;omega
  |m+1,k,h=>by
    have ih:=ordN_lt ha hb hl m (k+1) (by omega)
    have a1:=ha.1.1 k (by omega)
    have b1:=hb.1.1 k (by omega)
    have cn:=cmp_neg a1.1 a1.2 ha.2 ha.1.2.2 b1.1 b1.2 hb.2 hb.1.2.2
    have cz:=cmp_zero a1.1 a1.2 ha.2 ha.1.2.2 b1.1 b1.2 hb.2 hb.1.2.2
    rw[beq_iff_eq]at cz
    rw[ordN]
    split
    · rename_i hne
      rw[cn]
      constructor
      · intro hlt
        exact⟨k,Nat.le_refl _,by omega,fun j h1 h2=>by omega,hlt⟩
      · rintro⟨i,h1,h2,h3,h4⟩
        by_cases e:i=k
        · subst e;exact h4
        · exact absurd (cz.2 (h3 k (Nat.le_refl _) (by omega))) hne
    · rename_i hne
      have heq:=cz.1 (by simpa using hne)
      rw[ih]
      constructor
      · rintro⟨i,h1,h2,h3,h4⟩
        exact⟨i,by omega,h2,fun j g1 g2=>by
          by_cases e:j=k
          · subst e;exact heq
          · exact h3 j (by omega) g2,h4⟩
      · rintro⟨i,h1,h2,h3,h4⟩
        by_cases e:i=k
        · subst e;omega
        · exact⟨i,by omega,h2,fun j g1 g2=>h3 j (by omega) g2,h4⟩
theorem ordM_lt {a b:Rat} (ha:Fit a) (hb:Fit b) (hl:a.1.length=b.1.length):ordM a.1 a.2 b.1 b.2<0↔LtR a.1.length a b:=by
  rw[ordM,ordN_lt ha hb hl a.1.length 0 (by omega)]
  constructor
  · rintro⟨i,_,h2,h3,h4⟩
    exact⟨i,h2,fun j hj=>h3 j (Nat.zero_le _) hj,h4⟩
  · rintro⟨i,h2,h3,h4⟩
    exact⟨i,Nat.zero_le _,h2,fun j _ hj=>h3 j hj,h4⟩
def Low (r:Rat):Prop:=∀d:Nat,(d:Int)∣r.2→(∀k,k<r.1.length→(d:Int)∣r.1.getD k 0)→d=1
theorem gN_max {o:Int} {l:List Int} {d:Nat} (ho:1≤o) (h1:(d:Int)∣o) (h2:∀k,k<l.length→(d:Int)∣l.getD k 0):∀k,k≤l.length→d∣gN o l k
  |0,_=>by
    rw[gN]
    have:((o.toNat:Nat):Int)=o:=Int.toNat_of_nonneg (by omega)
    rw[←this]at h1
    exact Int.ofNat_dvd.1 h1
  |k+1,hk=>by
    rw[gN]
    exact Nat.dvd_gcd (gN_max ho h1 h2 k (by omega)) (Int.ofNat_dvd_left.1 (h2 k (by omega)))
theorem low_low {l:List Int} {o:Int} (h:∀k,k<l.length→-9223372036854775808<l.getD k 0∧l.getD k 0≤9223372036854775807) (h1:1≤o) (h2:o≤9223372036854775807):Low (lowL l o,lowO l o):=by
  obtain⟨g0,g1,g2⟩:=gL_spec h h1 h2
  have e:=gN_gL o l h h1 h2
  intro d hd hk
  have ho:=(tdiv_dvd g0 g1 (by omega) h2).1
  have hdg:((d*gN o l l.length:Nat):Int)=(d:Int)*gL l o:=by rw[←e];simp
  have hmul:((d*gN o l l.length:Nat):Int)∣o:=by
    rw[hdg]
    have m:=Int.mul_dvd_mul hd (Int.dvd_refl (gL l o))
    have ho':lowO l o*gL l o=o:=ho
    rwa [ho']at m
  have hmul2:∀k,k<l.length→((d*gN o l l.length:Nat):Int)∣l.getD k 0:=fun k hkl=>by
    have t:=(tdiv_dvd g0 (g2 k hkl) (h k hkl).1 (h k hkl).2).1
    have q:=hk k (by simp[lowL,hkl])
    rw[lowL_get hkl]at q
    rw[hdg]
    have m:=Int.mul_dvd_mul q (Int.dvd_refl (gL l o))
    rwa [t]at m
  have hd2:=gN_max h1 hmul hmul2 l.length (Nat.le_refl _)
  have hp:=(gN_bound o l h1 h2 l.length).1
  have:=Nat.le_of_dvd hp hd2
  have hd0:d≠0:=fun e0=>by
    subst e0
    simp at hd2
    omega
  have:d*gN o l l.length≤1*gN o l l.length:=by omega
  have:=Nat.le_of_mul_le_mul_right this hp
  omega
theorem low_same {x y:Rat} (hx:Low x) (hy:Low y) (hxo:1≤x.2) (hyo:1≤y.2) (hl:x.1.length=y.1.length) (h:∀j,j<x.1.length→x.1.getD j 0*y.2=y.1.getD j 0*x.2):x=y:=by
  obtain⟨A,hA⟩:∃A:Nat,x.2=A:=⟨x.2.toNat,by omega⟩
  obtain⟨B,hB⟩:∃B:Nat,y.2=B:=⟨y.2.toNat,by omega⟩
  have hg:0<Nat.gcd A B:=Nat.gcd_pos_of_pos_left _ (by omega)
  have c1:=Nat.coprime_div_gcd_div_gcd hg
  have e1:A / Nat.gcd A B*Nat.gcd A B=A:=Nat.div_mul_cancel (Nat.gcd_dvd_left _ _)
  have e2:B / Nat.gcd A B*Nat.gcd A B=B:=Nat.div_mul_cancel (Nat.gcd_dvd_right _ _)
  generalize A / Nat.gcd A B=a at *
  generalize B / Nat.gcd A B=b at *
  generalize Nat.gcd A B=g at *
  have hc:∀j,j<x.1.length→x.1.getD j 0*(b:Int)=y.1.getD j 0*(a:Int):=fun j hj=>by
    have:=h j hj
    rw[hA,hB,←e1,←e2]at this
    refine Int.eq_of_mul_eq_mul_right (show (g:Int)≠0 by omega) ?_
    push_cast at this
    grind
  have ha:a=1:=hx a (by rw[hA,←e1];push_cast;exact⟨g,rfl⟩) fun j hj=>by
    rw[Int.ofNat_dvd_left]
    have:a∣(x.1.getD j 0).natAbs*b:=by
      have:=congrArg Int.natAbs (hc j hj)
      rw[Int.natAbs_mul,Int.natAbs_mul,Int.natAbs_natCast,Int.natAbs_natCast]at this
      exact⟨(y.1.getD j 0).natAbs,by rw[this,Nat.mul_comm]⟩
    exact c1.dvd_of_dvd_mul_right this
  have hb:b=1:=hy b (by rw[hB,←e2];push_cast;exact⟨g,rfl⟩) fun j hj=>by
    rw[Int.ofNat_dvd_left]
    have:b∣(y.1.getD j 0).natAbs*a:=by
      have:=congrArg Int.natAbs (hc j (by omega))
      rw[Int.natAbs_mul,Int.natAbs_mul,Int.natAbs_natCast,Int.natAbs_natCast]at this
      exact⟨(x.1.getD j 0).natAbs,by rw[←this,Nat.mul_comm]⟩
    exact c1.symm.dvd_of_dvd_mul_right this
  subst ha hb
  have hAB:x.2=y.2:=by rw[hA,hB,←e1,←e2]
  refine Prod.ext (getD_ext hl fun j hj=>?_) hAB
  have:=hc j hj
  omega
end Go.Proofs.Ytafhnfcahhlanaa
namespace Go.Proofs.Ytafhnfcahhlanaa
open Go.Sx Go.RowKit
open Go.Lp (S D dt sg ex ry)
structure GoodR (by_:List Int) (n:Nat) (x:Rat):Prop where
  fit:Fit x
  low:Low x
  len:x.1.length=n
  d1 : -4611686018427387904<dotL by_ x.1
  d2:dotL by_ x.1<4611686018427387904
def bvR (by_:List Int) (x:Rat):Rat:=(-(dotL by_ x.1)::x.1,x.2)
theorem takes_lt {by_:List Int} {n:Nat} {x c:Rat} (hx:GoodR by_ n x) (hc:GoodR by_ n c):takes by_ (some c) x=true↔LtR (n+1) (bvR by_ x) (bvR by_ c):=by
  have e:cOf by_ (some c) x=cmpM (dotL by_ x.1) x.2 (dotL by_ c.1) c.2:=rfl
  have cp:=cmp_pos hx.d1 hx.d2 hx.fit.2 hx.fit.1.2.2 hc.d1 hc.d2 hc.fit.2 hc.fit.1.2.2
  have cz:=cmp_zero hx.d1 hx.d2 hx.fit.2 hx.fit.1.2.2 hc.d1 hc.d2 hc.fit.2 hc.fit.1.2.2
  have ol:=ordM_lt hx.fit hc.fit (by rw[hx.len,hc.len])
  rw[hx.len]at ol
  rw[takes,e,Bool.or_eq_true,Bool.and_eq_true,decide_eq_true_iff,decide_eq_true_iff,show cur (some c)=c from rfl,cp,cz,ol]
  constructor
  · rintro (h|⟨h1,k,k1,k2,k3⟩)
    · exact⟨0,by omega,fun j hj=>by omega,by
        show -(dotL by_ x.1)*c.2 < -(dotL by_ c.1)*x.2
        rw[Int.neg_mul,Int.neg_mul];omega⟩
    · exact⟨k+1,by omega,fun j hj=>by
        cases j with
        |zero=>
          show -(dotL by_ x.1)*c.2 = -(dotL by_ c.1)*x.2
          rw[Int.neg_mul,Int.neg_mul,h1]
        |succ j=>exact k2 j (by omega),k3⟩
  · rintro⟨k,k1,k2,k3⟩
    cases k with
    |zero=>
      left
      have k3 : -(dotL by_ x.1)*c.2 < -(dotL by_ c.1)*x.2:=k3
      rw[Int.neg_mul,Int.neg_mul]at k3
      omega
    |succ k=>
      right
      have h0 : -(dotL by_ x.1)*c.2 = -(dotL by_ c.1)*x.2:=k2 0 (by omega)
      rw[Int.neg_mul,Int.neg_mul]at h0
      exact⟨by omega,k,by omega,fun j hj=>k2 (j+1) (by omega),k3⟩
theorem best_fold (by_:List Int) (s:List Rat):bestM by_ s=s.foldl (fstep fun x c=>takes by_ (some c) x) none:=by
  have e:bstep by_=fstep fun x c=>takes by_ (some c) x:=by
    funext o x
    cases o with
    |none=>rw[bstep,takes_none,if_pos rfl];rfl
    |some c=>rfl
  rw[bestM,e]
theorem best_same {by_:List Int} {n:Nat} {xs ys:List Rat} (hx:∀x∈xs,GoodR by_ n x) (h:∀x,x∈xs↔x∈ys):bestM by_ xs=bestM by_ ys:=by
  rw[best_fold,best_fold]
  refine fold_same _ (GoodR by_ n) (fun x hx=>?_) (fun x y z hx hy hz h1 h2=>?_) (fun x y hx hy h1 h2=>?_) xs ys hx h
  · rw[Bool.eq_false_iff]
    intro h
    exact LtR.irr ((takes_lt hx hx).1 h)
  · refine (takes_lt hx hz).2 (LtR.tr ?_ ?_ ?_ ((takes_lt hx hy).1 h1) ((takes_lt hy hz).1 h2))
    · have:=hx.fit.2;show 0<x.2;omega
    · have:=hy.fit.2;show 0<y.2;omega
    · have:=hz.fit.2;show 0<z.2;omega
  · rw[Bool.eq_false_iff]at h1 h2
    have t:=LtR.tri (fun h=>h1 ((takes_lt hx hy).2 h)) (fun h=>h2 ((takes_lt hy hx).2 h))
    exact low_same hx.low hy.low hx.fit.2 hy.fit.2 (by rw[hx.len,hy.len]) fun j hj=>t (j+1) (by rw[hx.len]at hj;omega)
theorem sgn_lt {p q:Int}:sgnI p q<0↔p<q:=by
  unfold sgnI
  split
  · omega
  · split<;>omega
theorem sgn_eq {p q:Int}:sgnI p q=0↔p=q:=by
  unfold sgnI
  split
  · omega
  · split<;>omega
theorem lexI_lt {a b:List Int}:∀m k,lexI a b k m<0↔∃i,k≤i∧i<k+m∧(∀j,k≤j→j<i→a.getD j 0=b.getD j 0)∧a.getD i 0<b.getD i 0
  |0,k=>by
    constructor
    · intro h;cases h
    · rintro⟨i,h1,h2,_⟩;omega
  |m+1,k=>by
    have ih:=lexI_lt (a:=a) (b:=b) m (k+1)
    rw[lexI]
    split
    · rename_i hne
      rw[sgn_lt]
      constructor
      · intro hlt
        exact⟨k,Nat.le_refl _,by omega,fun j h1 h2=>by omega,hlt⟩
      · rintro⟨i,h1,h2,h3,h4⟩
        by_cases e:i=k
        · subst e;exact h4
        · exact absurd (sgn_eq.2 (h3 k (Nat.le_refl _) (by omega))) hne
    · rename_i hne
      have heq:a.getD k 0=b.getD k 0:=sgn_eq.1 (Classical.not_not.1 hne)
      rw[ih]
      constructor
      · rintro⟨i,h1,h2,h3,h4⟩
        exact⟨i,by omega,by omega,fun j g1 g2=>by
          by_cases e:j=k
          · subst e;exact heq
          · exact h3 j (by omega) g2,h4⟩
      · rintro⟨i,h1,h2,h3,h4⟩
        by_cases e:i=k
        · subst e;omega
        · exact⟨i,by omega,by omega,fun j g1 g2=>h3 j (by omega) g2,h4⟩
theorem least_fold (wm:List Int→Bool) (n:Nat):∀(s:List (List Int)) (o:Option (List Int)),s.foldl (lstep wm n) o=(s.filter wm).foldl (fstep fun x c=>decide (lexI x c 0 n<0)) o
  |[],o=>rfl
  |x::s,o=>by
    rw[List.foldl_cons,least_fold wm n s,List.filter_cons]
    cases hw:wm x with
    |false=>simp[lstep,takeL,hw]
    |true=>
      rw[if_pos rfl,List.foldl_cons]
      congr 1
      cases o with
      |none=>simp[lstep,takeL,hw,fstep]
      |some c=>by_cases hq:lexI x c 0 n<0<;>simp[lstep,takeL,hw,fstep,curL,hq]
theorem ray_fold (by_:List Int):∀(s:List (List Int)) (o:Option (List Int)),s.foldl (rstep by_) o=(s.filter fun x=>decide (dotL by_ x>0)).foldl (fstep fun x c=>decide (ordM x 1 c 1<0)) o
  |[],o=>rfl
  |x::s,o=>by
    rw[List.foldl_cons,ray_fold by_ s,List.filter_cons]
    cases hw:decide (dotL by_ x>0) with
    |false=>simp[rstep,takeR,hw]
    |true=>
      rw[if_pos rfl,List.foldl_cons]
      congr 1
      cases o with
      |none=>simp[rstep,takeR,hw,fstep]
      |some c=>by_cases hq:ordM x 1 c 1<0<;>simp[rstep,takeR,hw,fstep,curL,hq]
theorem fold_congr {α:Type} (lt1 lt2:α→α→Bool) (Q:α→Prop) (h:∀x c,Q x→Q c→lt1 x c=lt2 x c):∀(s:List α) (o:Option α),(∀x∈s,Q x)→(∀c,o=some c→Q c)→s.foldl (fstep lt1) o=s.foldl (fstep lt2) o
  |[],o,_,_=>rfl
  |x::s,o,hs,ho=>by
    have hx:=hs x List.mem_cons_self
    have e:fstep lt1 o x=fstep lt2 o x:=by
      cases o with
      |none=>rfl
      |some c=>rw[fstep,fstep,h x c hx (ho c rfl)]
    rw[List.foldl_cons,List.foldl_cons,e]
    refine fold_congr lt1 lt2 Q h s _ (fun y hy=>hs y (List.mem_cons_of_mem _ hy)) fun c hc=>?_
    cases o with
    |none=>cases hc;exact hx
    |some d=>
      rw[fstep]at hc
      split at hc
      · cases hc;exact hx
      · cases hc;exact ho _ rfl
theorem ray_least {by_:List Int} {wm:List Int→Bool} {n:Nat} {xs ys:List (List Int)} (hx:∀x∈xs,x.length=n∧Tame (x,1)) (h:∀x,x∈xs↔x∈ys) (hw:∀x∈xs,wm x=decide (dotL by_ x>0)):rayM by_ xs=leastM wm n ys:=by
  have lexl:∀x c:List Int,decide (lexI x c 0 n<0)=true↔LtR n (x,1) (c,1):=fun x c=>by
    rw[decide_eq_true_iff,lexI_lt]
    constructor
    · rintro⟨i,_,h2,h3,h4⟩
      exact⟨i,by omega,fun j hj=>by show x.getD j 0*1=c.getD j 0*1;rw[h3 j (Nat.zero_le _) hj],by show x.getD i 0*1<c.getD i 0*1;omega⟩
    · rintro⟨i,h2,h3,h4⟩
      have h4:x.getD i 0*1<c.getD i 0*1:=h4
      exact⟨i,Nat.zero_le _,by omega,fun j _ hj=>by
        have h3:x.getD j 0*1=c.getD j 0*1:=h3 j hj
        omega,by omega⟩
  rw[rayM,leastM,ray_fold,least_fold]
  rw[fold_congr (fun x c=>decide (ordM x 1 c 1<0)) (fun x c=>decide (lexI x c 0 n<0)) (fun x:List Int=>x.length=n∧Tame (x,1)) (fun x c hx hc=>by
    rw[Bool.eq_iff_iff,lexl,decide_eq_true_iff]
    have:=ordM_lt (a:=(x,1)) (b:=(c,1)) ⟨hx.2,Int.le_refl _⟩ ⟨hc.2,Int.le_refl _⟩ (by show x.length=c.length;rw[hx.1,hc.1])
    rw[this,show ((x,1):Rat).1.length=n from hx.1]) _ none (fun x hm=>hx x ((List.mem_filter.1 hm).1)) (fun c hc=>by cases hc)]
  refine fold_same _ (fun x:List Int=>x.length=n∧Tame (x,1)) (fun x hx=>?_) (fun x y z hx hy hz h1 h2=>?_) (fun x y hx hy h1 h2=>?_) _ _ (fun x hm=>hx x ((List.mem_filter.1 hm).1)) fun x=>?_
  · rw[Bool.eq_false_iff]
    intro h
    exact LtR.irr ((lexl x x).1 h)
  · exact (lexl x z).2 (LtR.tr (x:=(x,1)) (y:=(y,1)) (z:=(z,1)) Int.one_pos Int.one_pos Int.one_pos ((lexl x y).1 h1) ((lexl y z).1 h2))
  · rw[Bool.eq_false_iff]at h1 h2
    have t:=LtR.tri (fun h=>h1 ((lexl x y).2 h)) (fun h=>h2 ((lexl y x).2 h))
    refine getD_ext (by rw[hx.1,hy.1]) fun j hj=>?_
    have t:x.getD j 0*1=y.getD j 0*1:=t j (by rw[←hx.1];exact hj)
    omega
  · rw[List.mem_filter,List.mem_filter]
    constructor
    · rintro⟨a,b⟩
      exact⟨(h x).1 a,by rw[hw x a];exact b⟩
    · rintro⟨a,b⟩
      have a:=(h x).2 a
      exact⟨a,by rw[←hw x a];exact b⟩
theorem Lk.corner_low {L:List Cond} {P:Lp.Sys} (k:Lk L P) {r:Rat} (h:r∈cornersM L P.n):Low r:=by
  obtain⟨set,hs,hr⟩:=List.mem_filterMap.1 h
  obtain⟨p,e,hp⟩:=choose_nat hs
  rw[←k.N]at e hp
  have e:set=cI (P.idx p):=e
  have hp:(P.idx p).length=P.n:=hp
  subst e
  obtain⟨o1,o2,o3⟩:=k.over hp
  rw[cornerM,o1]at hr
  split at hr
  · cases hr
  rename_i hd
  have s:=sign_of o2 o3 hd
  obtain⟨hl,hn⟩:=k.nums hp hd
  split at hr
  · cases hr
    refine low_low (fun j hj=>?_) (by rw[s.1];omega) (by rw[s.1];omega)
    obtain⟨a,b,c⟩:=hn j (by omega)
    rw[a];omega
  · cases hr
theorem Lk.cornGood {L:List Cond} {P:Lp.Sys} (k:Lk L P) {by_:List Int} (hd:∀x∈cornersM L P.n,-4611686018427387904<dotL by_ x.1∧dotL by_ x.1<4611686018427387904):∀x∈Go.Proofs.Ytafhnfcahhlanaa.cornR L P.n,GoodR by_ P.n x:=by
  intro x hx
  have hx:=(k.cornR x).1 hx
  have q:=k.corner_of hx
  have:=q.o1
  have:=q.o2
  exact⟨⟨⟨fun j hj=>by have:=q.nums j (by rw[←q.len];exact hj);omega,by omega,by omega⟩,q.o1⟩,k.corner_low hx,q.len,(hd x hx).1,(hd x hx).2⟩
theorem rays_mem {L L0:List Cond} {P:Lp.Sys} (k:Lk L0 P) (hB:∀i,i<P.N→P.B i=0) (hL:homL L=L0) (h0:0<P.n) (r:List Int):r∈raysR L P.n↔r∈raysM L0 P.n:=by
  have hll:L.length=L0.length:=by rw[←hL,homL_len]
  rw[raysR,raysM,List.mem_flatMap,List.mem_flatMap,hL,hll]
  have key:∀set∈chooseM L0.length (P.n-1),rayOfR L0 P.n set=raysOf L0 P.n set:=fun set hs=>by
    obtain⟨p,e,hp⟩:=choose_nat hs
    rw[←k.N]at e hp
    have e:set=cI (P.idx p):=e
    have hp:(P.idx p).length=P.n-1:=hp
    subst e
    exact (k.rayOf hB (by omega)).1
  constructor
  · rintro⟨set,h1,h2⟩
    have h1:=(ch_same _ _ _).1 h1
    exact⟨set,h1,by rw[←key set h1];exact h2⟩
  · rintro⟨set,h1,h2⟩
    exact⟨set,(ch_same _ _ _).2 h1,by rw[key set h1];exact h2⟩
theorem line_bd {L L0:List Cond} {P:Lp.Sys} (k:Lk L0 P) (hB:∀i,i<P.N→P.B i=0) (hL:homL L=L0) (h0:0<P.n):∀set∈chR (P.n-1) 0 L.length,Bd (lineL (homL L) set P.n) P.n:=by
  have hll:L.length=L0.length:=by rw[←hL,homL_len]
  intro set hs
  rw[hll]at hs
  obtain⟨p,e,hp⟩:=choose_nat ((ch_same _ _ _).1 hs)
  rw[←k.N]at e hp
  have e:set=cI (P.idx p):=e
  have hp:(P.idx p).length=P.n-1:=hp
  subst e
  rw[hL]
  exact (k.rayOf hB (by omega)).2
theorem rays0 (L:List Cond):raysR L 0=[]:=by
  have e:∀set,rayOfR (homL L) 0 set=[]:=fun set=>if_neg (by rw[smN];decide)
  rw[raysR,List.flatMap_eq_nil_iff]
  exact fun set _=>e set
theorem flat_le {α β:Type} (f:α→List β) (h:∀x,(f x).length≤2):∀s:List α,(s.flatMap f).length≤2*s.length
  |[]=>Nat.le_refl _
  |x::s=>by
    have:=flat_le f h s
    have:=h x
    rw[List.flatMap_cons,List.length_append,List.length_cons]
    omega
theorem rays_few (L:List Cond) (n:Nat) (hL:L.length≤8):(raysR L n).length≤1048576:=by
  have h1:=flat_le (rayOfR (homL L) n) (fun set=>by
    have hp:∀dl,(partR (homL L) n dl).length≤1:=fun dl=>by
      rw[partR];split<;>simp
    rw[rayOfR]
    split
    · have a:=hp (lineL (homL L) set n)
      have b:=hp (negW (lineL (homL L) set n))
      rw[List.length_append];omega
    · simp) (chR (n-1) 0 L.length)
  have h2:=ch_len (n-1) 0 L.length
  have h3:2 ^ (L.length-0)≤2 ^ 8:=Nat.pow_le_pow_right (by decide) (by omega)
  rw[raysR]
  have:(2:Nat) ^ 8=256:=rfl
  omega
theorem corn_few (L:List Cond) (n:Nat) (hL:L.length≤8):(cornR L n).length≤1048576:=by
  have h1:(cornR L n).length≤(chR n 0 L.length).length:=by
    rw[cornR];exact List.length_filterMap_le _ _
  have h2:=ch_len n 0 L.length
  have h3:2 ^ (L.length-0)≤2 ^ 8:=Nat.pow_le_pow_right (by decide) (by omega)
  have:(2:Nat) ^ 8=256:=rfl
  omega
theorem getD_in {M:List (List Int)} {i:Nat} (h:i<M.length):M.getD i []∈M:=by
  simp[List.getD_eq_getElem?_getD,List.getElem?_eq_getElem h]
theorem dr_tame {P:Lp.Sys} {r:List Int} (h:Dr0 P r):r.length=P.n∧Tame (r,1):=by
  have hbR:=bR_in P.n
  exact⟨h.len,fun j hj=>by have:=h.nums j (by rw[←h.len];exact hj);show _<r.getD j 0∧r.getD j 0<_;omega,(by decide:(0:Int)≤1),(by decide:(1:Int)<4611686018427387904)⟩
theorem raysP_mem {p:Prob} (hc:checkM p=0) (r:List Int):r∈raysR (primalM p 1) p.obj.length↔r∈raysM (primalM p 0) p.obj.length:=by
  obtain⟨n0,_⟩:=check_ok hc
  exact rays_mem (lkP0 hc) (fun _ _=>rfl) (homL_primal p) (show 0<p.obj.length from n0) r
theorem raysQ_mem {p:Prob} (hc:checkM p=0) (hm:0<p.rows.length) (r:List Int):r∈raysR (dualM p 1) p.rows.length↔r∈raysM (dualM p 0) p.rows.length:=
  rays_mem (lkQ0 hc) (fun _ _=>rfl) (homL_dual p) (show 0<p.rows.length from hm) r
theorem raysP_ok {p:Prob} (hc:checkM p=0):∀r∈raysR (primalM p 1) p.obj.length,r.length=p.obj.length∧Tame (r,1):=fun r hr=>by
  obtain⟨n0,_⟩:=check_ok hc
  exact dr_tame ((lkP0 hc).ray_of (fun _ _=>rfl) (show 0<p.obj.length from n0) ((raysP_mem hc r).1 hr))
theorem raysQ_ok {p:Prob} (hc:checkM p=0):∀r∈raysR (dualM p 1) p.rows.length,r.length=p.rows.length∧Tame (r,1):=fun r hr=>by
  rcases Nat.eq_zero_or_pos p.rows.length with e|hm
  · rw[e,rays0]at hr;cases hr
  · exact dr_tame ((lkQ0 hc).ray_of (fun _ _=>rfl) (show 0<p.rows.length from hm) ((raysQ_mem hc hm r).1 hr))
theorem rayP_eq {p:Prob} (hc:checkM p=0):rayP p=dM p:=
  ray_least (raysP_ok hc) (raysP_mem hc) fun x hx=>by
    rw[dotL_comm ((raysP_ok hc x hx).1)]
theorem rayQ_eq {p:Prob} (hc:checkM p=0) (hm:0<p.rows.length):rayQ p=yM p:=by
  obtain⟨n0,n3,m4,hll,hrl⟩:=check_ok hc
  obtain⟨hobj,hlim⟩:=check_obj hc
  refine ray_least (raysQ_ok hc) (raysQ_mem hc hm) fun x hx=>?_
  have hm:=(raysQ_mem hc hm x).1 hx
  have q:=(lkQ0 hc).ray_of (fun _ _=>rfl) (show 0<p.rows.length by assumption) hm
  have ql:x.length=p.rows.length:=q.len
  have hbR:=bR_in (lpOf p).Q.hom.n
  have qn:∀j,j<p.rows.length→-35184372088832≤x.getD j 0∧x.getD j 0≤35184372088832:=fun j hj=>by
    have:=q.nums j hj
    omega
  have ng:=negW_in hlim
  rw[dotL_comm (show x.length=p.lim.length by rw[ql,hll]),dot_S (n:=p.rows.length) (by omega) hll (fun j hj=>hlim j (by omega)) qn,
    dot_S (n:=p.rows.length) (by omega) (by rw[negW_len,hll]) (fun j hj=>by
      have:=hlim j (by omega)
      rw[ng j (by omega)];omega) qn]
  have e:dt p.rows.length (fn (negW p.lim)) (fn x)=dt p.rows.length (fun j=>-(fn p.lim j)) (fn x):=dt_congr (fun j hj=>ng j (by omega)) fun _ _=>rfl
  rw[e,Go.Lp.dt_negl]
  congr 1
  apply propext
  omega
theorem cornP_good {p:Prob} (hc:checkM p=0) (by_:List Int) (hl:by_.length=p.obj.length) (hb:∀j,j<p.obj.length→-1000≤by_.getD j 0∧by_.getD j 0≤1000):∀x∈cornP p,GoodR by_ p.obj.length x:=
  (lkP1 hc).cornGood fun x hx=>by
    have:=corners_small hc by_ hl hb x hx
    exact⟨this.1,this.2.1⟩
theorem cornQ_good {p:Prob} (hc:checkM p=0) (by_:List Int) (hl:by_.length=p.rows.length) (hb:∀j,j<p.rows.length→-1000≤by_.getD j 0∧by_.getD j 0≤1000):∀x∈cornQ p,GoodR by_ p.rows.length x:=
  (lkQ1 hc).cornGood fun x hx=>by
    have:=duals_small hc by_ hl hb x hx
    exact⟨this.1,this.2.1⟩
theorem cornP_mem {p:Prob} (hc:checkM p=0) (x:Rat):x∈cornP p↔x∈cornersM (primalM p 1) p.obj.length:=(lkP1 hc).cornR x
theorem cornQ_mem {p:Prob} (hc:checkM p=0) (x:Rat):x∈cornQ p↔x∈cornersM (dualM p 1) p.rows.length:=(lkQ1 hc).cornR x
theorem zeros_in (n j:Nat) : -1000≤(zerosL n).getD j 0∧(zerosL n).getD j 0≤1000:=by rw[zerosL_get];decide
theorem lim_in {p:Prob} (hc:checkM p=0):(negW p.lim).length=p.rows.length∧∀j,j<p.rows.length→-1000≤(negW p.lim).getD j 0∧(negW p.lim).getD j 0≤1000:=by
  obtain⟨n0,n3,m4,hll,hrl⟩:=check_ok hc
  obtain⟨hobj,hlim⟩:=check_obj hc
  refine⟨by rw[negW_len,hll],fun j hj=>?_⟩
  have:=hlim j (by omega)
  rw[negW_in hlim j (by omega)];omega
theorem good_tame {by_:List Int} {n:Nat} {C:List Rat} (h:∀x∈C,GoodR by_ n x):TameAll by_ C:=fun i hi=>by
  have q:=h _ (cAt_mem hi)
  exact⟨q.fit.1,q.d1,q.d2⟩
theorem corn_none {p:Prob} (hc:checkM p=0):(cornP p).length=0↔(firstM p).isSome=false:=by
  have e:bestM (zerosL p.obj.length) (cornP p)=firstM p:=best_same (cornP_good hc _ (by simp[zerosL]) fun j _=>zeros_in _ j) (cornP_mem hc)
  rw[←e]
  rcases fold_res (fun x c=>takes (zerosL p.obj.length) (some c) x) (fun _=>False) (fun _ h=>h.elim) (fun _ _ _ h=>h.elim) [] (fun _ h=>by cases h) with _|⟨_,h,_⟩
  · cases hC:cornP p with
    |nil=>exact⟨fun _=>rfl,fun _=>rfl⟩
    |cons x s=>
      constructor
      · intro h;cases h
      · intro h
        have:∀(s:List Rat) (o:Option Rat),o.isSome=true→(s.foldl (bstep (zerosL p.obj.length)) o).isSome=true:=by
          intro s
          induction s with
          |nil=>exact fun _ h=>h
          |cons y s ih=>
            intro o ho
            rw[List.foldl_cons]
            apply ih
            rw[bstep]
            split
            · rfl
            · exact ho
        have t:=this s (bstep (zerosL p.obj.length) none x) (by rw[bstep,takes_none];rfl)
        have h:((x::s).foldl (bstep (zerosL p.obj.length)) none).isSome=false:=h
        rw[List.foldl_cons,t]at h
        cases h
  · cases h
theorem dual_corner {p:Prob} (hc:checkM p=0) (hf:(firstM p).isSome=true) (hd:¬(dM p).isSome=true):cornersM (dualM p 1) p.rows.length≠[]:=by
  obtain⟨n0,n3,m4,hll,hrl⟩:=check_ok hc
  have hl:=leastM_some (wm:=fun d=>decide (dotL d p.obj>0)) (n:=p.obj.length) (raysM (primalM p 0) p.obj.length)
  have hr:∀r,(lpOf p).P.ray r→dt (lpOf p).n (lpOf p).c r≤0:=fun r hr=>by
    apply Classical.byContradiction
    intro hn
    obtain⟨x,hx,g,g0,hg⟩:=(lkP0 hc).ray_in (fun _ _=>rfl) (show (lpOf p).P.hom.ray r from hr)
    have hx:x∈raysM (primalM p 0) p.obj.length:=hx
    have q:=(lkP0 hc).ray_of (fun _ _=>rfl) (show 0<p.obj.length from n0) hx
    have ql:x.length=p.obj.length:=q.len
    have hbR:=bR_in (lpOf p).P.hom.n
    refine hd (hl.1.2 ⟨x,hx,decide_eq_true ?_⟩)
    rw[dotL_comm ql,dot_S (n:=p.obj.length) (by omega) rfl (check_obj hc).1 fun j hj=>by
      have:=q.nums j hj
      omega]
    have e:dt (lpOf p).n (lpOf p).c r=g*dt p.obj.length (fn p.obj) (fn x):=by
      rw[←Go.Lp.dt_mul_right]
      exact dt_congr (fun _ _=>rfl) fun j hj=>by rw[←hg j hj,Int.mul_comm];rfl
    have:0<g*dt p.obj.length (fn p.obj) (fn x):=by omega
    exact Int.pos_of_mul_pos_right this g0
  obtain⟨x0,o0,hx0⟩:=(first_iff hc).1 hf
  obtain⟨x,o,y,q,hx,hy,heq⟩:=(lpOf p).corners (show p.obj.length≤4 by omega) (show p.rows.length≤4 by omega) hx0 hr
  obtain⟨r2,hr2,e2⟩:=(lkQ1 hc).corner_in hy
  have hr2:r2∈cornersM (dualM p 1) p.rows.length:=hr2
  intro e
  rw[e]at hr2
  cases hr2
theorem fineR_of {p:Prob} (hc:checkM p=0):FineR p:=by
  obtain⟨n0,n3,m4,hll,hrl⟩:=check_ok hc
  obtain⟨hobj,hlim⟩:=check_obj hc
  have hpl:(primalM p 1).length≤8:=by rw[primalM_len];omega
  have hql:(dualM p 1).length≤8:=by rw[dualM_len];omega
  have z:=cornP_good hc (zerosL p.obj.length) (by simp[zerosL]) fun j _=>zeros_in _ j
  have l:=cornQ_good hc (negW p.lim) (lim_in hc).1 (lim_in hc).2
  refine⟨(lkP1 hc).smallS,(lkQ1 hc).smallS,line_bd (lkP0 hc) (fun _ _=>rfl) (homL_primal p) (show 0<p.obj.length from n0),fun set hs hm=>line_bd (lkQ0 hc) (fun _ _=>rfl) (homL_dual p) (show 0<p.rows.length from hm) set hs,good_tame z,good_tame (cornP_good hc p.obj rfl hobj),good_tame l,fun i hi=>(z _ (cAt_mem hi)).len,fun i hi=>(l _ (cAt_mem hi)).len,corn_few _ _ hpl,corn_few _ _ hql,fun i hi=>raysP_ok hc _ (getD_in hi),fun i hi=>raysQ_ok hc _ (getD_in hi),rays_few _ _ hpl,rays_few _ _ hql,fun h=>first_rows hc ((corn_none hc).1 h),fun h1 h2=>?_⟩
  rcases Nat.eq_zero_or_pos (cornQ p).length with e|e
  rotate_left
  · exact e
  exfalso
  have hf:(firstM p).isSome=true:=by
    cases hq:(firstM p).isSome with
    |true=>rfl
    |false=>exact absurd ((corn_none hc).2 hq) h1
  rw[rayP_eq hc]at h2
  have e2:cornersM (dualM p 1) p.rows.length=[]:=List.eq_nil_iff_forall_not_mem.2 fun x hx=>by
    have hx:=(cornQ_mem hc x).2 hx
    rw[List.eq_nil_of_length_eq_zero e]at hx
    cases hx
  exact dual_corner hc hf (by rw[h2];decide) e2
theorem solve_same {p:Prob}:refSolveM p=solveM p:=by
  rw[refSolveM,solveM]
  by_cases hc0:checkM p≠0
  · rw[if_pos hc0,if_pos hc0]
  rw[if_neg hc0,if_neg hc0]
  have hc:checkM p=0:=by simpa using hc0
  obtain⟨n0,n3,m4,hll,hrl⟩:=check_ok hc
  obtain⟨hobj,hlim⟩:=check_obj hc
  have hcn:=corn_none hc
  by_cases h:(cornP p).length=0
  · rw[if_pos h,if_pos (hcn.1 h),rayQ_eq hc (first_rows hc (hcn.1 h))]
  rw[if_neg h,if_neg fun q=>h (hcn.2 q),rayP_eq hc]
  have e0:bestM (zerosL p.obj.length) (cornP p)=firstM p:=best_same (cornP_good hc _ (by simp[zerosL]) fun j _=>zeros_in _ j) (cornP_mem hc)
  have e1:bestM p.obj (cornP p)=bestM p.obj (cornersM (primalM p 1) p.obj.length):=best_same (cornP_good hc _ rfl hobj) (cornP_mem hc)
  have e2:bestM (negW p.lim) (cornQ p)=bestM (negW p.lim) (cornersM (dualM p 1) p.rows.length):=best_same (cornQ_good hc _ (lim_in hc).1 (lim_in hc).2) (cornQ_mem hc)
  rw[e0,e1,e2]
end Go.Proofs.Ytafhnfcahhlanaa
namespace Go.Proofs.Ytafhnfcahhlanaa
open Go.Sx Go.RowKit
theorem refSame_any (av bv:Value) (s:Sol) (w:World) (ha:SolAt w av s) (hb:SolAt w bv s) (m1:s.at_.1.length≤1000000) (m2:s.proof.1.length≤1000000) (m3:s.dir.length≤1000000):
    Calls Try.prog 15 #[av,bv] w fun e w'=>e=.returned (.bool true)∧Below w.heap.size w w':=by
  obtain⟨v1',v2',v3',rfl,⟨A1,c1,rfl,a1,a1c⟩,⟨A2,c2,rfl,a2,a2c⟩,⟨A3,c3,rfl,a3,a3c⟩⟩:=ha
  obtain⟨v1',v2',v3',rfl,⟨B1,d1,rfl,b1,b1c⟩,⟨B2,d2,rfl,b2,b2c⟩,⟨B3,d3,rfl,b3,b3c⟩⟩:=hb
  refine enterSay [] [.agg [.k (I s.kind),.k (.slice A1 s.at_.1.length c1),.k (I s.at_.2),.k (.slice A2 s.proof.1.length c2),.k (I s.proof.2),.k (.slice A3 s.dir.length c3)],.agg [.k (I s.kind),.k (.slice B1 s.at_.1.length d1),.k (I s.at_.2),.k (.slice B2 s.proof.1.length d2),.k (I s.proof.2),.k (.slice B3 s.dir.length d3)]] [] Try.func15 rfl 31 Try.ntmps15 rfl rfl ⟨⟨trivial,trivial,trivial,trivial,trivial,trivial,trivial⟩,⟨trivial,trivial,trivial,trivial,trivial,trivial,trivial⟩,trivial⟩ trivial ?_
  refine G.seqR tfine rfl trivial ?_
  refine G.seqC tfine rfl ?_ ?_
  · first|trivial|(simp[AllP,condB];done)|(simp only[AllP];and_intros<;>first|trivial|decide|omega)|(simp[AllP,condB];intros;and_intros<;>first|assumption|omega)|(simp[AllP,condB];intros;simp_all;done)
  refine GO.callGuard (.bool true) rfl rfl rfl (by first|exact trivial|exact⟨id,trivial⟩|exact⟨id,id,trivial⟩|exact⟨id,id,id,trivial⟩) rfl rfl (fun args w=>Try.call20 args w) rfl (fun hct m' hle ρ w1 hs hok=>?_) ?_
  · have:=SameRatios_any (.agg #[.slice A1 s.at_.1.length c1,I s.at_.2]) (.agg #[.slice B1 s.at_.1.length d1,I s.at_.2]) s.at_ s.at_ w1 ⟨_,rfl,⟨A1,c1,rfl,a1.below hs.fr.toBelow,a1c⟩⟩ ⟨_,rfl,⟨B1,d1,rfl,b1.below hs.fr.toBelow,b1c⟩⟩ m1
    rw[sameR_refl]at this
    exact this
  refine GO.more tfine rfl ?_ ?_
  · first|trivial|(simp[AllP,condB];done)|(simp only[AllP];and_intros<;>first|trivial|decide|omega)|(simp[AllP,condB];intros;and_intros<;>first|assumption|omega)|(simp[AllP,condB];intros;simp_all;done)
  refine GO.callGuard (.bool true) rfl rfl rfl (by first|exact trivial|exact⟨id,trivial⟩|exact⟨id,id,trivial⟩|exact⟨id,id,id,trivial⟩) rfl rfl (fun args w=>Try.call20 args w) rfl (fun hct m' hle ρ w1 hs hok=>?_) ?_
  · have:=SameRatios_any (.agg #[.slice A2 s.proof.1.length c2,I s.proof.2]) (.agg #[.slice B2 s.proof.1.length d2,I s.proof.2]) s.proof s.proof w1 ⟨_,rfl,⟨A2,c2,rfl,a2.below hs.fr.toBelow,a2c⟩⟩ ⟨_,rfl,⟨B2,d2,rfl,b2.below hs.fr.toBelow,b2c⟩⟩ m2
    rw[sameR_refl]at this
    exact this
  refine GO.more tfine rfl ?_ ?_
  · first|trivial|(simp[AllP,condB];done)|(simp only[AllP];and_intros<;>first|trivial|decide|omega)|(simp[AllP,condB];intros;and_intros<;>first|assumption|omega)|(simp[AllP,condB];intros;simp_all;done)
  refine GO.callGuard (.bool true) rfl rfl rfl (by first|exact trivial|exact⟨id,trivial⟩|exact⟨id,id,trivial⟩|exact⟨id,id,id,trivial⟩) rfl rfl (fun args w=>Try.call53 args w) rfl (fun hct m' hle ρ w1 hs hok=>?_) ?_
  · have:=same_any A3 B3 c3 d3 s.dir s.dir w1 (a3.below hs.fr.toBelow) (b3.below hs.fr.toBelow) m3
    rw[eqI_refl]at this
    exact this
  refine GO.fin tfine rfl ?_ ?_
  · first|trivial|(simp[AllP,condB];done)|(simp only[AllP];and_intros<;>first|trivial|decide|omega)|(simp[AllP,condB];intros;and_intros<;>first|assumption|omega)|(simp[AllP,condB];intros;simp_all;done)
  refine G.ret (retK.plain tfine rfl ?_)
  simp
theorem solve_lens {p:Prob}:(solveM p).1.at_.1.length≤4∧(solveM p).1.proof.1.length≤4∧(solveM p).1.dir.length≤4:=by
  rw[solveM]
  split
  · decide
  rename_i hc
  have hc:checkM p=0:=by simpa using hc
  obtain⟨n0,n3,m4,hll,hrl⟩:=check_ok hc
  have pl:∀by_,(cur (bestM by_ (cornersM (primalM p 1) p.obj.length))).1.length≤4:=fun by_=>by
    cases h:bestM by_ (cornersM (primalM p 1) p.obj.length) with
    |none=>exact Nat.zero_le _
    |some b=>
      have:b.1.length=p.obj.length:=((lkP1 hc).corner_of (bestM_mem by_ _ _ (fun _ h=>h) b h)).len
      show b.1.length≤4
      omega
  have ql:∀by_,(cur (bestM by_ (cornersM (dualM p 1) p.rows.length))).1.length≤4:=fun by_=>by
    cases h:bestM by_ (cornersM (dualM p 1) p.rows.length) with
    |none=>exact Nat.zero_le _
    |some b=>
      have:b.1.length=p.rows.length:=((lkQ1 hc).corner_of (bestM_mem by_ _ _ (fun _ h=>h) b h)).len
      show b.1.length≤4
      omega
  have rl:∀wm n L,n≤4→(curL (leastM wm n (raysM L n))).length≤4:=fun wm n L hn=>by
    cases h:leastM wm n (raysM L n) with
    |none=>exact Nat.zero_le _
    |some b=>
      have:=raysM_len (leastM_mem wm n _ _ (fun _ h=>h) b h)
      show b.length≤4
      omega
  split
  · exact⟨Nat.zero_le _,rl _ _ _ (by omega),Nat.zero_le _⟩
  split
  · exact⟨pl _,Nat.zero_le _,rl _ _ _ (by omega)⟩
  · exact⟨pl _,ql _,Nat.zero_le _⟩
theorem LinearSolves_any (p:Prob) (pv:Value) (vs0:Nat→Value) (w:World) (hp:ProbAt w pv p vs0) (h2:p.rows.length≤9223372036854775807):
    Calls Try.prog 3 #[pv] w fun e w'=>e=.returned (.bool true)∧Below w.heap.size w w':=by
  have hp0:=hp
  obtain⟨ov,rv2,lv,rfl,⟨Ao,co,rfl,ho,hoc⟩,⟨Ar,cr,rfl,hrr,hrc,hri⟩,⟨Al,cl,rfl,hl,hlc⟩⟩:=hp
  refine enterSay [] [.agg [.k (.slice Ao p.obj.length co),.k (.slice Ar p.rows.length cr),.k (.slice Al p.lim.length cl)]] [] Try.func3 rfl 37 Try.ntmps3 rfl rfl ⟨⟨trivial,trivial,trivial,trivial⟩,trivial⟩ trivial ?_
  refine G.seqR tfine rfl trivial ?_
  refine G.seq ?_
  refine G.seqC tfine rfl trivial ?_
  refine GO.callPlain (v:=.bool true) rfl rfl rfl rfl (fun args w=>Try.call9 args w) (fun ρ w1 hs hok=>awake_any w1) ?_
  refine GO.fin tfine rfl trivial ?_
  refine G.cond_false rfl ?_
  refine G.skip ?_
  refine G.seq ?_
  refine G.seqC tfine rfl trivial ?_
  refine GO.callPlain (v:=.bool (fewM p)) rfl rfl rfl rfl (fun args w=>Try.call10 args w) (fun ρ w1 hs hok=>Few_any p _ vs0 w1 (hp0.below hs.fr.toBelow) h2) ?_
  refine GO.fin tfine rfl ?_ ?_
  · first|trivial|(simp[AllP,condB];done)|(simp only[AllP];and_intros<;>first|trivial|decide|omega)|(simp[AllP,condB];intros;and_intros<;>first|assumption|omega)|(simp[AllP,condB];intros;simp_all;done)
  refine G.cond (b:=!(fewM p)) rfl (fun h=>?_) (fun h=>?_)
  · refine G.seqR tfine rfl trivial ?_
    exact G.ret (retK.plain tfine rfl rfl)
  have hf:fewM p=true:=by simpa using h
  obtain⟨l1,l2,l3,l4⟩:=few_len hf
  have l5:∀r∈p.rows,r.length≤100000:=fun r hr=>by have:=l4 r hr;omega
  refine G.skip ?_
  obtain⟨z1,z2,z3⟩:=solve_lens (p:=p)
  obtain⟨Z,hZ⟩:∃Z,Z=solveM p:=⟨_,rfl⟩
  rw[←hZ]at z1 z2 z3
  refine G.seqC tfine rfl trivial ?_
  refine GO.callSay 871 (fun u:Cho=>.tuple #[.agg #[I Z.1.kind,slV Z.1.at_.1.length (pr1 u),I Z.1.at_.2,slV Z.1.proof.1.length (pr2 u),I Z.1.proof.2,slV Z.1.dir.length (pr3 u)],I Z.2]) (solS Z) (solR Z) rfl rfl rfl rfl rfl (fun args w=>Try.call11 args w) (fun ρ w1 hs hok=>by rw[hZ];exact solveC p _ vs0 w1 (hp0.below hs.fr.toBelow) (by omega) (by omega) (by omega) l5) fun u1=>?_
  refine GO.fin tfine rfl trivial ?_
  refine G.seqC tfine rfl trivial ?_
  refine GO.callSay 872 (fun u:Cho=>.tuple #[.agg #[I Z.1.kind,slV Z.1.at_.1.length (pr1 u),I Z.1.at_.2,slV Z.1.proof.1.length (pr2 u),I Z.1.proof.2,slV Z.1.dir.length (pr3 u)],I Z.2]) (solS Z) (solR Z) rfl rfl rfl rfl rfl (fun args w=>Try.call12 args w) (fun ρ w1 hs hok=>by
    rw[hZ,←solve_same]
    exact (refSolve_any p _ vs0 w1 (hp0.below hs.fr.toBelow) (by omega) (by omega) (by omega) l5 fun hc=>fineR_of hc).mono fun e w' h=>h.cho) fun u2=>?_
  refine GO.fin tfine rfl trivial ?_
  refine G.seqDraw hmix [0,1,0,7,15,31,63,63,255,511,1023,2047,2047,8191,16383,32767] [] rfl rfl rfl ?_
  refine GD.more tfine 0 rfl rfl trivial ?_
  refine GD.stepF 1 rfl (Steps.callPlain (v:=I (checkM p)) rfl rfl rfl rfl (fun args w=>Try.call13 args w) (fun m' hle ρ w1 hs hok=>check_any p _ vs0 w1 (hp0.below hs.fr.toBelow) (by omega) (by omega) (by omega) l5)) rfl ?_
  refine GD.more tfine 2 rfl rfl trivial ?_
  refine GD.stepF 3 rfl (Steps.callPlain (v:=I (checkM p)) rfl rfl rfl rfl (fun args w=>Try.call14 args w) (fun m' hle ρ w1 hs hok=>refCheck_any p _ vs0 w1 (hp0.below hs.fr.toBelow) (by omega) (by omega) (by omega) l5)) rfl ?_
  refine GD.more tfine 4 rfl rfl ?_ ?_
  · first|trivial|(simp[AllP,condB];done)|(simp only[AllP];and_intros<;>first|trivial|decide|omega)|(simp[AllP,condB];intros;and_intros<;>first|assumption|omega)|(simp[AllP,condB];intros;simp_all;done)
  refine GD.stepF 8 rfl (Steps.callGuard (v:=.bool true) rfl rfl rfl (by first|exact trivial|exact⟨fun h=>h,trivial⟩|exact⟨fun h=>h,fun h=>h,trivial⟩) rfl rfl (fun args w=>Try.call15 args w) rfl (fun hct m' hle ρ w1 hs hok=>?_)) rfl ?_
  · obtain⟨a1,a2,a3⟩:=(hs.ok 871 _ (hle.at rfl)).1
    obtain⟨b1,b2,b3⟩:=(hs.ok 872 _ (hle.at rfl)).1
    exact refSame_any _ _ Z.1 w1 ⟨_,_,_,rfl,a1,a2,a3⟩ ⟨_,_,_,rfl,b1,b2,b3⟩ (by omega) (by omega) (by omega)
  refine GD.fin tfine 9 rfl rfl ?_ ?_
  · first|trivial|(simp[AllP,condB];done)|(simp only[AllP];and_intros<;>first|trivial|decide|omega)|(simp[AllP,condB];intros;and_intros<;>first|assumption|omega)|(simp[AllP,condB];intros;simp_all;done)
  refine G.ret (retK.plain tfine rfl ?_)
  simp
theorem LinearSolves_row (a0:Option Addr) (c0:Nat) (e0:List (List Value)) (a1:Option Addr) (c1:Nat) (e1:List (List Value)) (a2:Option Addr) (c2:Nat) (e2:List (List Value)) (w:World)
    (r0:RdRow w a0 e0.length 1 (fun i=>e0.getD i [])) (n0:a0=none→e0.length=0) (m0:e0.length≤maxLen∧e0.length≤c0) (w0:∀es∈e0,LeafAll (Leaf.says w 3) [.int .i64] es)
    (r1:RdRow w a1 e1.length 1 (fun i=>e1.getD i [])) (n1:a1=none→e1.length=0) (m1:e1.length≤maxLen∧e1.length≤c1) (w1:∀es∈e1,LeafAll (Leaf.says w 3) [.row 1 [.int .i64]] es)
    (r2:RdRow w a2 e2.length 1 (fun i=>e2.getD i [])) (n2:a2=none→e2.length=0) (m2:e2.length≤maxLen∧e2.length≤c2) (w2:∀es∈e2,LeafAll (Leaf.says w 3) [.int .i64] es):
    Calls Try.prog 3 #[.agg #[.slice a0 e0.length c0,.slice a1 e1.length c1,.slice a2 e2.length c2]] w fun e w'=>e=.returned (.bool true)∧Below w.heap.size w w':=by
  obtain⟨p,vs,hp,hp2⟩:=rowProb r0 m0 w0 r1 m1 w1 r2 m2 w2
  exact LinearSolves_any p _ vs w hp hp2
end Go.Proofs.Ytafhnfcahhlanaa
