import Derived.Test.YtafhnfcahhlanaaLB2
import Derived.RangeFuncLeaves
import Derived.Test.YtafhnfcahhlanaaProg
import Derived.KernelRfl
import Derived.Lib.Mul64
set_option linter.unusedVariables false
set_option linter.unusedSimpArgs false
namespace Go.Sx
open Go.RowKit
def rnAC (x y:Nat) (a:AC):AC:=match a with
  |.slc z i sz n c=>.slc (bif Nat.beq z x then y else z) i sz n c
  |a=>a
def rnAV (x y:Nat) (a:AV):AV:=match a with
  |.c a=>.c (rnAC x y a)
  |.agg l=>.agg (l.map (rnAC x y))
def rnTV (x y:Nat) (t:TV):TV:=match t with
  |.v a=>.v (rnAV x y a)
  |.grd j w b a=>.grd j w b (rnAV x y a)
  |.tup l=>.tup (l.map (rnAV x y))
  |t=>t
def rnB (x y:Nat) (b:Option Blk):Option Blk:=match b with
  |some (.var ty cells)=>some (.var ty (cells.map (rnAC x y)))
  |b=>b
def rnOK:Blk→Prop
  |.arr ..=>True
  |.ro _ n _=>n=0
  |_=>False
section
variable {P:Program} {E:Env} {K:Exit→St→Prop} {T:Tab}
theorem rnAC_ok {x y:Nat} {ρ ρ':Val} {m m':Mem} (hy:ρ' y=ρ x) (hs:∀z,(m z).isSome=true→(m' z).isSome=true) (hm:(m' y).isSome=true) (hρ:∀z,(m z).isSome=true→ρ' z=ρ z) {a:AC} (ho:a.ok ρ m):(rnAC x y a).ok ρ' m'∧(rnAC x y a).conc ρ'=a.conc ρ:=by
  cases a with
  |slc z i sz n c=>
    simp only[rnAC]
    cases hb:Nat.beq z x with
    |true=>
      have:=Nat.eq_of_beq_eq_true hb
      subst this
      exact⟨hm,by simp[AC.conc,hy]⟩
    |false=>exact⟨hs z ho,by simp[AC.conc,hρ z ho]⟩
  |_=>exact⟨AC.ok_mono hs hρ ho,AC.conc_mono hρ ho⟩
theorem rnAV_ok {x y:Nat} {ρ ρ':Val} {m m':Mem} (hy:ρ' y=ρ x) (hs:∀z,(m z).isSome=true→(m' z).isSome=true) (hm:(m' y).isSome=true) (hρ:∀z,(m z).isSome=true→ρ' z=ρ z) {a:AV} (ho:a.ok ρ m):(rnAV x y a).ok ρ' m'∧(rnAV x y a).conc ρ'=a.conc ρ:=by
  cases a with
  |c a=>exact rnAC_ok hy hs hm hρ ho
  |agg l=>
    refine⟨fun b hb=>?_,?_⟩
    · obtain⟨a,ha,rfl⟩:=List.mem_map.1 hb
      exact (rnAC_ok hy hs hm hρ (ho a ha)).1
    · have:(l.map (rnAC x y)).map (AC.conc ρ')=l.map (AC.conc ρ):=by
        rw[List.map_map]
        exact List.map_congr_left fun a ha=>(rnAC_ok hy hs hm hρ (ho a ha)).2
      simp[rnAV,AV.conc,this]
theorem rnTV_rep {x y:Nat} {ρ ρ':Val} {m m':Mem} (hy:ρ' y=ρ x) (hs:∀z,(m z).isSome=true→(m' z).isSome=true) (hm:(m' y).isSome=true) (hρ:∀z,(m z).isSome=true→ρ' z=ρ z) {t:TV} {v:Value} (h:t.rep ρ m v):(rnTV x y t).rep ρ' m' v:=by
  cases t with
  |unk=>trivial
  |v a=>exact⟨(rnAV_ok hy hs hm hρ h.1).1,h.2.trans (rnAV_ok hy hs hm hρ h.1).2.symm⟩
  |grd j w b a=>exact⟨fun hb=>⟨(rnAV_ok hy hs hm hρ (h.1 hb).1).1,(h.1 hb).2.trans (rnAV_ok hy hs hm hρ (h.1 hb).1).2.symm⟩,h.2⟩
  |tup l=>
    refine⟨fun b hb=>?_,?_⟩
    · obtain⟨a,ha,rfl⟩:=List.mem_map.1 hb
      exact (rnAV_ok hy hs hm hρ (h.1 a ha)).1
    · have:(l.map (rnAV x y)).map (AV.conc ρ')=l.map (AV.conc ρ):=by
        rw[List.map_map]
        exact List.map_congr_left fun a ha=>(rnAV_ok hy hs hm hρ (h.1 a ha)).2
      rw[h.2,this]
  |tab z n w=>
    exact TV.rep_mono hs hρ h
def rnS (x y:Nat) (b:Blk) (st:St):St:=⟨fun j=>rnTV x y (st.t j),up (up (fun z=>rnB x y (st.m z)) x (some (.ro 0 0 fun _=>[]))) y (some b)⟩
theorem Sat.rn {ρ:Val} {st:St} {a:Act} {w:World} (h:Sat E ρ st a w) {x y:Nat} {b:Blk} (hx:st.m x=some b) (hb:rnOK b) (hxb:x<1000) (hy:st.m y=none) (hyb:y<1000):Sat E (up ρ y (ρ x)) (rnS x y b st) a w:=by
  obtain⟨t,m⟩:=st
  have hxy:x≠y:=fun e=>by subst e;rw[hy]at hx;cases hx
  have hρ:∀z,(m z).isSome=true→up ρ y (ρ x) z=ρ z:=fun z hz=>up_other _ _ (fun e=>by subst e;rw[show m z=none from hy]at hz;cases hz)
  have hsr:∀z,(m z).isSome=true→(rnB x y (m z)).isSome=true:=fun z hz=>by
    cases hm:m z with
    |none=>rw[hm]at hz;cases hz
    |some b=>cases b<;>rfl
  have hs:∀z,(m z).isSome=true→((rnS x y b ⟨t,m⟩).m z).isSome=true:=fun z hz=>isSome_up z (isSome_up z (hsr z hz))
  have hmy:((rnS x y b ⟨t,m⟩).m y).isSome=true:=by simp[rnS,up_same]
  have e1:up ρ y (ρ x) y=ρ x:=up_same _ _ _
  have cases':∀z c,(rnS x y b ⟨t,m⟩).m z=some c→(z=y∧c=b)∨(z=x∧c=.ro 0 0 fun _=>[])∨(z≠x∧z≠y∧∃c0,m z=some c0∧rnB x y (some c0)=some c):=by
    intro z c hz
    simp only[rnS]at hz
    by_cases h1:z=y
    · subst h1;rw[up_same]at hz;injection hz with hz;exact .inl ⟨rfl,hz.symm⟩
    · rw[up_other _ _ h1]at hz
      by_cases h2:z=x
      · subst h2;rw[up_same]at hz;injection hz with hz;exact .inr (.inl ⟨rfl,hz.symm⟩)
      · rw[up_other _ _ h2]at hz
        cases hm:m z with
        |none=>rw[hm]at hz;cases hz
        |some c0=>rw[hm]at hz;exact .inr (.inr ⟨h2,h1,c0,rfl,hz⟩)
  have same:∀c0 c,rnB x y (some c0)=some c→(c.own↔c0.own)∧(c.live↔c0.live)∧∀p k,c.hits p k↔c0.hits p k:=by
    intro c0 c hc
    cases c0<;>simp only[rnB]at hc<;>injection hc with hc<;>subst hc<;>exact⟨Iff.rfl,Iff.rfl,fun _ _=>Iff.rfl⟩
  refine⟨⟨h.mem.fr,fun p hp=>?_,fun z c hz=>?_,fun z1 z2 c d hz1 hz2 hc hd hne=>?_⟩,h.df,h.sz,fun j=>rnTV_rep e1 hs hmy hρ (h.tm j)⟩
  · have:=h.mem.bo p hp
    rw[up_other _ _ (by omega)];exact this
  · rcases cases' z c hz with⟨rfl,rfl⟩|⟨rfl,rfl⟩|⟨h1,h2,c0,h3,h4⟩
    · have hk:=h.mem.ok x _ hx
      cases c with
      |arr ty sz n el room=>
        obtain⟨k1,k2,a,ha,hs,he⟩:=hk
        refine⟨by rw[e1];exact k1,.inl ?_,a,by rw[e1];exact ha,hs,he⟩
        rw[e1]
        rcases k2 with k2|k2
        · exact k2
        · have:=(h.mem.bo _ k2).2;simp only at this;omega
      |ro sz n el=>intro h0;rw[show n=0 from hb]at h0;exact absurd h0 (Nat.lt_irrefl 0)
      |_=>exact hb.elim
    · exact fun h0=>absurd h0 (Nat.lt_irrefl 0)
    · have hk:=h.mem.ok z _ h3
      have ez:up ρ y (ρ x) z=ρ z:=up_other _ _ h2
      cases c0 with
      |var ty cells=>
        simp only[rnB]at h4
        injection h4 with h4
        subst h4
        have hcm:(cells.map (rnAC x y)).map (AC.conc (up ρ y (ρ x)))=cells.map (AC.conc ρ):=by
          rw[List.map_map]
          exact List.map_congr_left fun a ha=>(rnAC_ok e1 hs hmy hρ (hk.2.2.2 a ha)).2
        refine⟨by rw[ez];exact hk.1,by rw[ez];exact hk.2.1,by rw[ez,hcm];exact hk.2.2.1,fun a ha=>?_⟩
        obtain⟨a0,ha0,rfl⟩:=List.mem_map.1 ha
        exact (rnAC_ok e1 hs hmy hρ (hk.2.2.2 a0 ha0)).1
      |arr ty sz n el room=>
        simp only[rnB]at h4;injection h4 with h4;subst h4
        obtain⟨k1,k2,a,ha,hs,he⟩:=hk
        exact⟨by rw[ez];exact k1,by rw[ez];exact k2,a,by rw[ez];exact ha,hs,he⟩
      |obj Q=>
        simp only[rnB]at h4;injection h4 with h4;subst h4
        obtain⟨k1,k2,a,ha,hs⟩:=hk
        exact⟨by rw[ez];exact k1,by rw[ez];exact k2,a,by rw[ez];exact ha,hs⟩
      |ro sz n el=>
        simp only[rnB]at h4;injection h4 with h4;subst h4
        intro hn;rw[ez];exact hk hn
      |say S R=>
        simp only[rnB]at h4;injection h4 with h4;subst h4
        exact hk
  · rcases cases' z1 c hz1 with⟨rfl,rfl⟩|⟨rfl,rfl⟩|⟨h1,h2,c0,h3,h4⟩
    · rcases cases' z2 d hz2 with⟨rfl,rfl⟩|⟨rfl,rfl⟩|⟨k1,k2,d0,k3,k4⟩
      · exact absurd rfl hne
      · exact absurd hd (Nat.lt_irrefl 0)
      · rw[(same _ _ k4).2.2,e1,up_other _ _ k2]
        exact h.mem.ne x z2 c d0 hx k3 hc ((same _ _ k4).2.1.1 hd) (Ne.symm k1)
    · exact hc.elim
    · have hc0:=(same _ _ h4).1.1 hc
      rcases cases' z2 d hz2 with⟨rfl,rfl⟩|⟨rfl,rfl⟩|⟨k1,k2,d0,k3,k4⟩
      · have hh:=h.mem.ne z1 x c0 d h3 hx hc0 hd h1
        rw[up_other _ _ h2,e1]
        exact hh
      · exact absurd hd (Nat.lt_irrefl 0)
      · rw[(same _ _ k4).2.2,up_other _ _ h2,up_other _ _ k2]
        exact h.mem.ne z1 z2 c0 d0 h3 k3 hc0 ((same _ _ k4).2.1.1 hd) hne
theorem G.rn {c:Code} {st:St} (x y:Nat) {b:Blk} (hx:st.m x=some b) (hb:rnOK b) (hxb:Nat.blt x 1000=true) (hy:st.m y=none) (hyb:Nat.blt y 1000=true) (k:G P E K c (rnS x y b st)):G P E K c st:=
  G.sem fun ρ a w hs=>⟨_,_,hs.rn hx hb (by simpa[Nat.blt_eq] using hxb) hy (by simpa[Nat.blt_eq] using hyb),k⟩
def tailA (A:Option Addr) (cap sz:Nat):Option Addr:=if cap=1 then A else A.map fun x=>x.add (1*sz)
theorem RdRow.tail {w:World} {A:Option Addr} {n cap sz:Nat} {el:Nat→List Value} (h:RdRow w A n sz el) (hc:n≤cap):RdRow w (tailA A cap sz) (n-1) sz (fun i=>el (i+1)):=by
  intro h0
  obtain⟨b,o,rfl,h1,h2⟩:=h (by omega)
  refine⟨b,o+1*sz,?_,h1,fun i hi=>⟨(h2 (i+1) (by omega)).1,fun j hj=>?_⟩⟩
  · rw[tailA,if_neg (by omega),Option.map_some,addr_add]
  · rw[←(h2 (i+1) (by omega)).2 j hj]
    congr 2
    have:(i+1)*sz=i*sz+1*sz:=Nat.add_mul _ _ _
    omega
theorem GO.tail1 (hT:Tab.fine P T) {ops:Array Oper} {rest:List Oper} {o:Oper} {t e x n cap:Nat} {A:Option Addr} {y:Operand} {dd de:TyD} {t0:Nat→TV} {m:Mem} (hg:o.guard=none) (hop:o.op=.slice t y (some (.const (.int .i64 1))) none none) (hd:dstOk E.N o.dst=true) (ht:T t=some dd) (hk:dd.kind=.slice e) (he:T e=some de)
    (hy:evT t0 y=.v (.c (.inp x A n cap))) (hn:1≤n) (hc:n≤cap) (k:GO P E ops K rest ⟨Sx.putT t0 o.dst (.v (.c (.k (.slice (tailA A cap de.size) (n-1) (cap-1))))),m⟩):GO P E ops K (o::rest) ⟨t0,m⟩:=by
  intro ρ a w hs
  have hkind:=(hT.ok t dd ht).kind
  rw[hk]at hkind
  have hsz:=(hT.ok e de he).size w
  have hy':=hs.eval y
  rw[show (St.mk t0 m).ev y=_ from hy]at hy'
  have e1:a.eval y=.slice A n cap:=hy'.2
  have hbd:(Instr.sliceBounds true n cap (some (.int .i64 1)) none none).run P w=.ok (1,n,cap) w:=by
    have:=sliceBounds_run (P:=P) (b:=true) (η:=a.eval) (len:=n) (cap:=cap) (lo:=some (.const (.int .i64 1))) (hi:=none) (l:=1) (h:=(n:Int)) (.inr ⟨_,_,rfl,rfl⟩) (.inl ⟨rfl,rfl⟩) (by omega) (by omega) (by omega) w
    simpa[Act.eval_const] using this
  unfold wpL
  rw[if_pos (by simp[Region.wanted,hg])]
  refine .inl ?_
  refine Snd.go hs (dstOk_lt hd) (tv:=.v (.c (.k (.slice (tailA A cap de.size) (n-1) (cap-1))))) (Snd.here hs.mem (v:=.slice (tailA A cap de.size) (n-1) (cap-1)) ?_ ⟨trivial,rfl⟩) fun ρ' a' w' hs''=>k ρ' a' w' hs''
  simp only[execOp,hop,Instr.sliceAt,Instr.slice,Sem.run_bind,hkind w,Result.andThen_ok,e1,Act.eval_const,Option.map_some,Option.map_none,hbd,hsz,Sem.run_pure,tailA]
theorem GO.runN (hT:Tab.fine P T) (n:Nat) {ops:Array Oper} {rest:List Oper} {obs obs':List Prop} {t t':Nat→TV} {m m':Mem} (h:runOps T E.N ops (rest.take n) t m obs=.mk t' m' [] obs') (ho:AllP obs') (k:GO P E ops K (rest.drop n) ⟨t',m'⟩):GO P E ops K rest ⟨t,m⟩:=by
  induction n generalizing rest t m obs with
  |zero=>rw[List.take_zero]at h;injection h with h1 h2 h3 h4;subst h1;subst h2;simpa using k
  |succ n ih=>
    cases rest with
    |nil=>rw[List.take_nil]at h;injection h with h1 h2 h3 h4;subst h1;subst h2;simpa using k
    |cons o r=>
      rw[List.take_succ_cons,runOps_cons]at h
      split at h
      · injection h with h1 h2 h3 h4;cases h3
      · rename_i tv m1 ob he
        exact GO.step hT he (AllP_append.1 (runOps_ob h ho)).1 (ih h (by simpa using k))
theorem GO.firstN (hT:Tab.fine P T) (n:Nat) {ops:Array Oper} {rest:List Oper} {obs':List Prop} {t t':Nat→TV} {m m':Mem} (h:runOps T E.N ops (rest.take n) t m []=.mk t' m' [] obs') (ho:AllP obs') (k:GO P E ops K (rest.drop n) ⟨t',m'⟩):GO P E ops K rest ⟨t,m⟩:=GO.runN hT n h ho k
def asOf (w0 w:World):Prop:=w0.heap.size≤w.heap.size∧∀k,k<w0.heap.size→w.heap[k]?=w0.heap[k]?
theorem asOf.refl (w:World):asOf w w:=⟨Nat.le_refl _,fun _ _=>rfl⟩
theorem steady_asOf (w0:World):Steady (· < w0.heap.size) (asOf w0):=fun w1 w2 h1 h2 h=>⟨Nat.le_trans h.1 h2,fun k hk=>(h1 k hk).trans (h.2 k hk)⟩
theorem RdRow.asOf {w0 w:World} {A:Option Addr} {n sz:Nat} {el:Nat→List Value} (h:RdRow w0 A n sz el) (ha:Sx.asOf w0 w):RdRow w A n sz el:=by
  intro h0
  obtain⟨b,o,rfl,h1,h2⟩:=h h0
  exact⟨b,o,rfl,Nat.lt_of_lt_of_le h1 ha.1,fun i hi=>⟨(h2 i hi).1,fun j hj=>(World.cell?_of_block (w:=w0) (ha.2 b h1)).trans ((h2 i hi).2 j hj)⟩⟩
theorem heap_asOf {w0 w:World} {b:Nat} {o:Obj} (h:w0.heap[b]?=some o) (ha:Sx.asOf w0 w):w.heap[b]?=some o:=(ha.2 b (lt_of_heap h)).trans h
theorem sb_lt {w:World} {A:Option Addr} {n c sz:Nat} {el:Nat→List Value} (h:RdRow w A n sz el):∀k,sb (.slice A n c) k→k<w.heap.size:=by
  rintro k ⟨h0,a,rfl,rfl⟩
  obtain⟨b,o,e,h1,_⟩:=h h0
  cases e
  exact h1
theorem enterOld {f:FuncId} {fn:Func} {c:Code} {args:Array Value} {w:World} {R:Ending→World→Prop} (avs:List AV) (hf:P.funcs[f]?=some fn) (hb:fn.body=some c) (N:Nat) (hN:fn.ntmps=N) (hargs:args=(avs.map (AV.conc fun _=>(0,0))).toArray)
    (hl:Nat.ble avs.length N=true) (hc:allCn avs) (h:G P ⟨w,[],N,none,[]⟩ (retK P ⟨w,[],N,none,[]⟩ fn R) c ⟨argsT avs,lkM [(1,.say (· < w.heap.size) (asOf w))]⟩):Calls P f args w R:=
  enterSay [] avs [(1,.say (· < w.heap.size) (asOf w))] hf hb N hN hargs hl hc ⟨⟨asOf.refl w,fun k hk=>hk,steady_asOf w⟩,trivial,trivial⟩ h
theorem retK.plain (hT:Tab.fine P T) {w:World} {N:Nat} {fn:Func} {st:St} {v u:Value} (h:resP T st fn.results.toList=.mk u) (e:u=v):retK P ⟨w,[],N,none,[]⟩ fn (fun e w'=>e=.returned v∧Below w.heap.size w w') .ret st:=
  endK_ret hT (endK.ret h e)
def loadAV (d:TyD) (cs:List Value):AV:=match d.kind.isAgg with
  |true=>.agg (cs.map .k)
  |false=>.c (.k (cs.headD undef))
theorem loadK_run (hT:Tab.fine P T) {t b:Nat} {ty:TypeId} {cs:List Value} {d:TyD} (ht:T t=some d) (hl:cs.length=d.size) {w:World} (hw:w.heap[b]?=some (.cells cs.toArray ty (0,0))) (ρ:Val):(Instr.loadAt t (.pointer (some ⟨b,0,none⟩))).run P w=.ok ((loadAV d cs).conc ρ) w:=by
  have:=run_load_list (P:=P) (hT.ok t d ht) (w:=w) (b:=b) (o:=0) (cs:=cs) hl fun j v hj=>by
    rw[Nat.zero_add,cell_of_heap hw,List.getElem?_toArray];exact hj
  rw[this]
  unfold loadAV
  cases d.kind.isAgg with
  |true=>simp only[cond_true,AV.conc,map_conc_k]
  |false=>rfl
theorem loadAV_ok (d:TyD) (cs:List Value) (ρ:Val) (m:Mem):(loadAV d cs).ok ρ m:=by
  unfold loadAV
  cases d.kind.isAgg with
  |true=>intro a ha;obtain⟨v,_,rfl⟩:=List.mem_map.1 ha;trivial
  |false=>trivial
theorem Steps.loadK (hT:Tab.fine P T) {ops:Array Oper} {o:Oper} {C:St} {t b:Nat} {y:Operand} {S:Nat→Prop} {R:World→Prop} {d:TyD} {ty:TypeId} (X:Nat) (cs:List Value) (hg:o.guard=none) (hop:o.op=.load t y) (hd:dstOk E.N o.dst=true) (hy:evT C.t y=.v (.c (.k (.pointer (some ⟨b,0,none⟩)))))
    (hX:C.m X=some (.say S R)) (hR:∀w,R w→w.heap[b]?=some (.cells cs.toArray ty (0,0))) (ht:T t=some d) (hl:cs.length=d.size):Steps P E ops o C (.v (loadAV d cs)) []:=by
  intro st hle ρ a w hs Kc Q hk
  have hs':=hs.weakT hle.t
  have hX':st.m X=some (.say S R):=by
    rcases hle.m X with h|h
    · rw[hX]at h;cases h
    · exact h.trans hX
  have hw:=hR w (hs.mem.ok X _ hX').1
  have e1:a.eval y=.pointer (some ⟨b,0,none⟩):=by have:=hs'.eval y;rw[show (St.mk C.t st.m).ev y=_ from hy]at this;exact this.2
  rw[if_pos (by simp[Region.wanted,hg])]
  refine .inl ?_
  refine Snd.go hs (dstOk_lt hd) (tv:=.v (loadAV d cs)) (Snd.here hs.mem (v:=(loadAV d cs).conc ρ) ?_ ⟨loadAV_ok _ _ _ _,rfl⟩) fun ρ' a' w' hs''=>hk ρ' a' w' hs''
  simp only[execOp,hop,Sem.run_bind,e1,loadK_run hT ht hl hw ρ,Result.andThen_ok,Sem.run_pure]
theorem Steps.loadKG (hT:Tab.fine P T) {ops:Array Oper} {o:Oper} {C:St} {t b j:Nat} {want cb:Bool} {y:Operand} {S:Nat→Prop} {R:World→Prop} {d:TyD} {ty:TypeId} (X:Nat) (cs:List Value) (hg:o.guard=some (j,want)) (hb:guardB ops C.t j want=some cb) (hob:AllP (stripObs C.t j want cb (slotsOf o.op.operands.toList))) (hop:o.op=.load t y) (hd:dstOk E.N o.dst=true)
    (hy:evT (tG C.t j want (slotsOf o.op.operands.toList)) y=.v (.c (.k (.pointer (some ⟨b,0,none⟩)))))
    (hX:C.m X=some (.say S R)) (hR:∀w,R w→w.heap[b]?=some (.cells cs.toArray ty (0,0))) (ht:T t=some d) (hl:cs.length=d.size):Steps P E ops o C (.grd j want cb (loadAV d cs)) []:=by
  intro st hle ρ a w hs Kc Q hk
  have hs':=hs.weakT hle.t
  have hw:=wanted_cond (ops:=ops) hs' hg hb
  rw[hw]
  cases hcb:cb with
  |true=>
    subst hcb
    have hX':st.m X=some (.say S R):=by
      rcases hle.m X with h|h
      · rw[hX]at h;cases h
      · exact h.trans hX
    have hw:=hR w (hs.mem.ok X _ hX').1
    have e1:a.eval y=.pointer (some ⟨b,0,none⟩):=by
      have:=(hs'.tG hob rfl).eval y
      rw[show (St.mk (tG C.t j want (slotsOf o.op.operands.toList)) st.m).ev y=_ from hy]at this
      exact this.2
    rw[if_pos rfl]
    refine .inl ?_
    refine Snd.go hs (dstOk_lt hd) (tv:=.grd j want true (loadAV d cs)) (Snd.here hs.mem (v:=(loadAV d cs).conc ρ) ?_ ⟨fun _=>⟨loadAV_ok _ _ _ _,rfl⟩,fun h=>by cases h⟩) fun ρ' a' w' hs''=>hk ρ' a' w' hs''
    simp only[execOp,hop,Sem.run_bind,e1,loadK_run hT ht hl hw ρ,Result.andThen_ok,Sem.run_pure]
  |false=>
    subst hcb
    rw[if_neg (by simp)]
    exact hk ρ _ w (hs.putT (dstOk_lt hd) ⟨fun hf=>(by cases hf),fun _=>rfl⟩)
theorem GD.stepF {l:List Oper} {cls:List Nat} {X:List (Nat×Nat)} {base:St} {recs:List DR} {o:Oper} {rest:List Oper} {t:Nat→TV} {m:Mem} {tv:TV} {ms:List (Nat×Blk)} (i:Nat) (hi:recs.length=i) (h:Steps P E l.toArray o (canF l cls X base i recs) tv ms) (hn:Wok X i o ms=true)
    (k:GD P E K l cls X base (⟨o,tv,ms⟩::recs) rest (Sx.putT t o.dst tv) (upm m ms)):GD P E K l cls X base recs (o::rest) t m:=by
  rw[canF_eq hi]at h
  exact GD.step h (by rw[hi];exact hn) k
def allCalm (T:List Nat) (xJ:Nat):List (Nat×Blk)→Prop
  |[]=>True
  |p::r=>(p.1=xJ∨(p.1<1000∧Blk.calm T 0 p.2))∧allCalm T xJ r
theorem calm_of {T:List Nat} {xJ:Nat} {ml:List (Nat×Blk)} (h:allCalm T xJ ml):∀y b,y≠xJ→lkM ml y=some b→y<1000∧Blk.calm T 0 b:=by
  induction ml with
  |nil=>intro y b _ hb;cases hb
  |cons p r ih=>
    intro y b hy hb
    simp only[lkM]at hb
    cases hq:Nat.beq y p.1 with
    |true=>
      rw[hq]at hb
      simp only[cond_true]at hb
      injection hb with hb
      have e:=Nat.eq_of_beq_eq_true hq
      rcases h.1 with h1|h1
      · exact absurd (e.trans h1) hy
      · rw[e,←hb];exact h1
    |false=>
      rw[hq]at hb
      exact ih h.2 y b hy hb
theorem SatM.sayAt {ρ:Val} {m:Mem} {w:World} (h:SatM E ρ m w) {X:Nat} {S:Nat→Prop} {R:World→Prop} (hX:m X=some (.say S R)):R w∧∀k,S k→k<w.heap.size∧∀y b,m y=some b→b.own→(ρ y).1≠k:=by
  obtain⟨h1,h2,h3⟩:=h.ok X _ hX
  refine⟨h1,fun k hk=>⟨h2 k hk,fun y b hy hb e=>?_⟩⟩
  have hyX:y≠X:=fun e=>by subst e;rw[hX]at hy;cases hy;exact hb
  exact h.ne y X b _ hy hX hb trivial hyX (e▸hk)
end
end Go.Sx
namespace Go.Sx
open Go.RowKit
section
variable {P:Program} {E:Env} {K:Exit→St→Prop} {T:Tab}
def rawK (P:Program) (E:Env) (y:Code) (Q:Exit→Act→World→Prop):Exit→St→Prop:=fun e st=>e=.normal∧∀ρ a w,Sat E ρ st a w→y.wpIn (fenR none) 6 P Q a w
theorem rawSeq (h0:E.rnd=none) {x y:Code} {Q:Exit→Act→World→Prop} {ρ:Val} {st:St} {a:Act} {w:World} (hs:Sat E ρ st a w) (h:G P E (rawK P E y Q) x st):(Code.seq x y).wpIn (fenR none) 6 P Q a w:=by
  have h1:=h (fun hr=>by rw[h0]at hr;cases hr) ρ a w hs
  rw[h0]at h1
  refine wpIn_seq (wpIn_mono h1 ?_)
  rintro e a' w' ⟨ρ',st',hs',rfl,hk⟩
  exact hk ρ' a' w' hs'
theorem enterRaw {f:FuncId} {fn:Func} {c:Code} {args:Array Value} {w:World} {R:Ending→World→Prop} (L:List Nat) (avs:List AV) (ml:List (Nat×Blk)) (hf:P.funcs[f]?=some fn) (hb:fn.body=some c) (N:Nat) (hN:fn.ntmps=N) (hargs:args=(avs.map (AV.conc fun _=>(0,0))).toArray)
    (hl:Nat.ble avs.length N=true) (hc:allCn avs) (hm:mlOK 1000 L w ml) (h:∀ρ a,Sat ⟨w,borT 1000 L,N,none,[]⟩ ρ ⟨argsT avs,lkM ml⟩ a w→c.wpIn (fenR none) 6 P (bodyPostM (fenR none) 6 P fn R) a w):Calls P f args w R:=by
  subst hN
  have hl:=Nat.le_of_ble_eq_true hl
  have h0:Sat ⟨w,borT 1000 L,fn.ntmps,none,[]⟩ (ρT 1000 L) (St.of [] ml) { tmps:=args++Array.replicate (fn.ntmps-args.size) undef,defers:=[] } w:=
    Sat.say0 (Nat.le_refl _) rfl (by rw[hargs];simp;omega) trivial hm
  refine callsIn_wide.1 (callsIn_of_wp_marks (n:=6) (F:=Fence.wide) hf hb trivial (h (ρT 1000 L) _ ⟨h0.mem,h0.df,h0.sz,fun j=>?_⟩))
  show (argsT avs j).rep _ _ _
  unfold argsT
  cases hj:avs[j]? with
  |none=>trivial
  |some a=>
    have hlt:j<avs.length:=(List.getElem?_eq_some_iff.1 hj).1
    have hmem:a∈avs:=List.mem_of_getElem? hj
    have hr:=cnV_rep (allCn_mem hc a hmem) (ρT 1000 L) (fun _=>(0,0)) (lkM ml)
    refine⟨hr.1,?_⟩
    rw[←hr.2,hargs,Array.getD_eq_getD_getElem?,Array.getElem?_append_left (by simpa using hlt)]
    simp[hj]
theorem marks_end {fn:Func} {R:Ending→World→Prop} {e:Exit} {a:Act} {w:World} {D:Nat} {v:Value} (he:e=.ret∨e=.normal) (hd:a.defers=[{ target:=.collected D,args:=#[] }]) (hK:w.heap[D]?=some (.deferred (some [])))
    (hv:(results fn a.tmps).run P (w.putObj D (.deferred none))=.ok v (w.putObj D (.deferred none))) (hR:R (.returned v) (w.putObj D (.deferred none))):bodyPostM (fenR none) 6 P fn R e a w:=by
  have h:LeavesInM (fenR none) 6 P fn a.tmps R a.defers .returning w:=by
    rw[hd]
    exact⟨by simp,.inl ⟨D,_,rfl,run_takeDeferred hK,v,hv,hR⟩⟩
  rcases he with rfl|rfl<;>exact h
theorem results_none {fn:Func} (h:fn.results=#[]) (tmps:Array Value) (w:World):(results fn tmps).run P w=.ok (.tuple #[]) w:=by
  simp[results,h]
theorem Sat.tmK {ρ:Val} {st:St} {a:Act} {w:World} (hs:Sat E ρ st a w) {j:Nat} {v:Value} (h:st.t j=.v (.c (.k v))):a.tmps.getD j undef=v:=by
  have:=hs.tm j
  rw[h]at this
  exact this.2
theorem Sat.tmP {ρ:Val} {st:St} {a:Act} {w:World} (hs:Sat E ρ st a w) {j x n2 off:Nat} {ty:TypeId} {cells:List AC} (h:st.t j=.v (.c (.ptr x 0 n2 0))) (hx:st.m x=some (.var ty cells)):a.tmps.getD j undef=.pointer (some ⟨(ρ x).1,0,none⟩)∧w.heap[(ρ x).1]?=some (.cells (cells.map (AC.conc ρ)).toArray ty (0,0))∧(E.w0.heap.size≤(ρ x).1∨(x,(ρ x).1)∈E.bor)∧(ρ x).1<w.heap.size:=by
  have h1:=hs.tm j
  rw[h]at h1
  have h2:=hs.mem.ok x _ hx
  refine⟨h1.2.trans ?_,h2.2.2.1,hs.mem.ownGe hx trivial,hs.mem.lt hx trivial⟩
  simp[AV.conc,AC.conc,h2.1]
theorem getD_setNe {a:Array Value} {p j:Nat} {v:Value} (h:j≠p):(a.setIfInBounds p v).getD j undef=a.getD j undef:=by
  simp only[Array.getD_eq_getD_getElem?]
  rw[Array.getElem?_setIfInBounds_ne (by omega)]
theorem getD_setEq {a:Array Value} {p:Nat} {v:Value} (h:p<a.size):(a.setIfInBounds p v).getD p undef=v:=by
  simp[Array.getD_eq_getD_getElem?,Array.getElem?_setIfInBounds,h]
def accC (n c:Nat):Nat:=match n with
  |0=>0
  |_+1=>c
theorem accC_le {n c:Nat} (h:n≤c):n≤accC n c:=by cases n<;>first|exact Nat.le_refl _|exact h
theorem Sat.freezeAcc {ρ:Val} {t:Nat→TV} {m:Mem} {a:Act} {w:World} (h:Sat E ρ ⟨t,m⟩ a w) {x d n sz c:Nat} {e:TypeId} {el:Nat→List Value} (ht:t d=.v (.c (accV x sz n c))) (hm:m x=some (accB e sz n c el)):
    ∃A,Sat E ρ ⟨up t d (.v (.c (.k (.slice A n (accC n c))))),up m x (some (.say (sb (.slice A n (accC n c))) fun w=>RdRow w A n sz el))⟩ a w∧∀k,sb (.slice A n (accC n c)) k→E.w0.heap.size≤k∨(x,k)∈E.bor:=by
  cases n with
  |succ n=>
    have h1:=h.freezeArr (n:=n+1) (c:=c) ht hm (Nat.le_refl _)
    refine⟨some ⟨(ρ x).1,0,none⟩,?_,?_⟩
    · have e1:sb (.slice (some ⟨(ρ x).1,0,none⟩) (n+1) (accC (n+1) c))=(·=(ρ x).1):=by
        funext k
        refine propext ⟨fun⟨_,a,e,hk⟩=>by cases e;exact hk.symm,fun hk=>⟨Nat.succ_pos _,_,rfl,hk.symm⟩⟩
      rw[e1]
      exact h1
    · rintro k ⟨_,a,e,rfl⟩
      cases e
      exact h.mem.ownGe hm trivial
  |zero=>
    refine⟨none,?_,fun k hk=>absurd hk.1 (Nat.lt_irrefl 0)⟩
    have hsz:∀y,(m y).isSome=true→(up m x (some (.say (sb (.slice none 0 (accC 0 c))) fun w=>RdRow w none 0 sz el)) y).isSome=true:=fun y hy=>isSome_up y hy
    refine h.remem (h.mem.swap h.mem.fr (Nat.le_refl _) hsz fun y b hy=>?_) hsz ?_
    · by_cases e:y=x
      · subst e
        rw[up_same]at hy
        injection hy with hy
        subst hy
        exact .inr (.inl ⟨_,_,rfl,RdRow.nil _ _ _ _,fun k hk=>absurd hk.1 (Nat.lt_irrefl 0),steady_row,fun z c hz hc ho hk=>absurd hk.1 (Nat.lt_irrefl 0)⟩)
      · rw[up_other _ _ e]at hy
        exact .inl ⟨hy,fun _ _ _=>rfl⟩
    · have hd:=h.tm d
      rw[show (St.mk t m).t d=_ from ht]at hd
      exact hd
theorem G.freezeAcc {c0:Code} {t:Nat→TV} {m:Mem} (x d:Nat) {n sz c:Nat} {e:TypeId} {el:Nat→List Value} (ht:t d=.v (.c (accV x sz n c))) (hm:m x=some (accB e sz n c el))
    (k:∀A,(∀k,sb (.slice A n (accC n c)) k→E.w0.heap.size≤k∨(x,k)∈E.bor)→G P E K c0 ⟨up t d (.v (.c (.k (.slice A n (accC n c))))),up m x (some (.say (sb (.slice A n (accC n c))) fun w=>RdRow w A n sz el))⟩):G P E K c0 ⟨t,m⟩:=
  G.sem fun ρ a w hs=>let ⟨A,h1,h2⟩:=hs.freezeAcc ht hm;⟨ρ,_,h1,k A h2⟩
theorem Sat.shutD {ρ:Val} {st:St} {a:Act} {w:World} (hs:Sat E ρ st a w) (X:Nat) {D:Nat} {R:World→Prop} (o:Obj) (hD:E.w0.heap.size≤D∨D∈E.bor.map (·.2)) (hX:st.m X=some (.say (·=D) R)) (hm:∀z b,z≠X→st.m z=some b→b.own):
    Sat E ρ ⟨st.t,up st.m X (some (.say (fun _=>False) fun _=>True))⟩ a (w.putObj D o):=by
  obtain⟨t,m⟩:=st
  refine hs.remem0 (hs.mem.swap (hs.mem.fr.putObj hD o) (by simp) (fun z hz=>isSome_up z hz) fun z b hz=>?_) fun z hz=>isSome_up z hz
  by_cases e:z=X
  · subst e
    rw[up_same]at hz
    injection hz with hz
    subst hz
    exact .inr (.inl ⟨_,_,rfl,trivial,(fun k hk=>hk.elim),(fun _ _ _ _ _=>trivial),fun y c hy hc ho hk=>hk⟩)
  · rw[up_other _ _ e]at hz
    refine .inl ⟨hz,fun k hl hk=>World.putObj_heap_other ?_⟩
    have ho:=hm z b e hz
    have h1:=hs.mem.ne z X b _ hz hX ho trivial e
    have:k=(ρ z).1:=by
      cases b<;>first
        |exact hk
        |exact ho.elim
    rintro rfl
    exact h1 this.symm
theorem Rounds.later {α:Type} {l:Nat} {L:List Nat} {Rel:α→World→Value→Prop} {xs:List α} {J:List α→(Nat→Prop)→World→Prop} {W W':World} (h:Rounds P l L Rel xs J W) (hs:Same W W'):Rounds P l L Rel xs J W':=
  ⟨h.1,fun s x v Z W1 hx h1=>h.2 s x v Z W1 hx (hs.trans h1)⟩
theorem GO.yieldF {α:Type} {ops:Array Oper} {rest:List Oper} {o:Oper} {c:Call} {y z:Operand} {l:Nat} {av:AV} {t:Nat→TV} {m:Mem} {L:List Nat} {Rel:α→World→Value→Prop} {xs:List α} {J:List α→(Nat→Prop)→World→Prop} (xJ:Nat) (s:List α) (x:α) (Z:Nat→Prop)
    (hR:Rounds P l L Rel xs J E.w0) (hxs:x∈xs) (hE:E.bor=borT 1000 L) (hT:∀k∈L,k<E.w0.heap.size) (hx:m xJ=some (.say Z (J s Z)))
    (hg:o.guard=none) (hop:o.op=.call c) (hc:c.callee=.value y) (ha:c.args=#[z]) (hy:evT t y=.v (.c (.k (.func (.yield l) #[] #[])))) (hz:evT t z=.v av) (hd:dstOk E.N o.dst=true)
    (hcalm:∀y b,y≠xJ→m y=some b→y<1000∧Blk.calm L 0 b)
    (hrel:∀ρ w,SatM E ρ m w→av.ok ρ m→Rel x w (av.conc ρ)∧(∀k,vbk (av.conc ρ) k→E.w0.heap.size≤k∧k<w.heap.size∧∀y b,m y=some b→b.own→(ρ y).1≠k))
    (k:∀Z':Nat→Prop,(∀k,Z' k→Z k∨E.w0.heap.size≤k)→GO P E ops K rest ⟨Sx.putT t o.dst (.v (.c (.k (.bool true)))),up m xJ (some (.say Z' (J (s++[x]) Z')))⟩):GO P E ops K (o::rest) ⟨t,m⟩:=by
  intro ρ a w hs
  unfold wpL
  rw[if_pos (by simp[Region.wanted,hg])]
  refine .inr ?_
  obtain⟨hrun,hok⟩:=yield_run hs hop hc ha hy hz
  obtain⟨j1,j2,j3⟩:=hs.mem.ok _ _ hx
  obtain⟨r1,r2⟩:=hrel ρ w hs.mem hok
  obtain⟨fn,tmps,assign,body,h1,h2⟩:=hR.2 s x _ Z w hxs hs.mem.fr.same j1 j2 r1 fun k hk=>⟨(r2 k hk).2.1,fun hkL=>by have:=hT k hkL;have:=(r2 k hk).1;omega⟩
  refine⟨l,fn,tmps,assign,body,w,hrun.trans h1,RoundIn.mono h2 ?_⟩
  rintro e W' ⟨rfl,hfr,Z',hj,hZ⟩
  refine⟨_,rfl,k Z' (fun k hk=>?_) ρ _ W' ((hs.remem0 (hs.mem.yielded hE hT hfr hx hcalm (V:=vbk (av.conc ρ)) (fun y b hy ho hk=>(r2 _ hk).2.2 y b hy ho rfl) hj (hR.1 _ _) hZ) fun z hz=>isSome_up z hz).putT (dstOk_lt hd) ⟨trivial,rfl⟩)⟩
  rcases (hZ k hk).1 with h|h|h
  · exact .inl h
  · exact .inr (r2 k h).1
  · exact .inr (Nat.le_trans hs.mem.fr.size h)
theorem GO.yieldTF {α:Type} {ops:Array Oper} {rest:List Oper} {o:Oper} {c:Call} {y z:Operand} {l j:Nat} {want cb:Bool} {av:AV} {t:Nat→TV} {m:Mem} {L:List Nat} {Rel:α→World→Value→Prop} {xs:List α} {J:List α→(Nat→Prop)→World→Prop} (xJ:Nat) (s:List α) (x:α) (Z:Nat→Prop)
    (hR:Rounds P l L Rel xs J E.w0) (hxs:cb=true→x∈xs) (hE:E.bor=borT 1000 L) (hT:∀k∈L,k<E.w0.heap.size) (hx:m xJ=some (.say Z (J s Z)))
    (hg:o.guard=some (j,want)) (hb:guardB ops t j want=some cb) (hob:AllP (stripObs t j want cb (slotsOf o.op.operands.toList))) (hop:o.op=.call c) (hc:c.callee=.value y) (ha:c.args=#[z])
    (hy:evT (tG t j want (slotsOf o.op.operands.toList)) y=.v (.c (.k (.func (.yield l) #[] #[])))) (hz:evT (tG t j want (slotsOf o.op.operands.toList)) z=.v av) (hd:dstOk E.N o.dst=true)
    (hcalm:cb=true→∀y b,y≠xJ→m y=some b→y<1000∧Blk.calm L 0 b)
    (hrel:cb=true→∀ρ w,SatM E ρ m w→av.ok ρ m→Rel x w (av.conc ρ)∧(∀k,vbk (av.conc ρ) k→E.w0.heap.size≤k∧k<w.heap.size∧∀y b,m y=some b→b.own→(ρ y).1≠k))
    (k:∀Z':Nat→Prop,(∀k,Z' k→Z k∨E.w0.heap.size≤k)→GO P E ops K rest ⟨Sx.putT t o.dst (.grd j want cb (.c (.k (.bool true)))),up m xJ (some (.say Z' (J (bif cb then s++[x] else s) Z')))⟩):GO P E ops K (o::rest) ⟨t,m⟩:=by
  intro ρ a w hs
  have hw:=wanted_cond (ops:=ops) hs hg hb
  unfold wpL
  rw[hw]
  cases hcb:cb with
  |false=>
    subst hcb
    rw[if_neg (by simp)]
    have:=hs.putT (dstOk_lt hd) (tv:=.grd j want false (.c (.k (.bool true)))) (v:=undef) ⟨fun ht=>(by cases ht),fun _=>rfl⟩
    refine k Z (fun k hk=>.inl hk) ρ _ w ?_
    have e:up m xJ (some (.say Z (J s Z)))=m:=by
      funext q
      by_cases e:q=xJ
      · subst e;rw[up_same,hx]
      · rw[up_other _ _ e]
    simp only[cond_false,e]
    exact this
  |true=>
    subst hcb
    rw[if_pos rfl]
    refine .inr ?_
    obtain⟨hrun,hok⟩:=yield_run (hs.tG hob rfl) hop hc ha hy hz
    obtain⟨j1,j2,j3⟩:=hs.mem.ok _ _ hx
    obtain⟨r1,r2⟩:=hrel rfl ρ w hs.mem hok
    obtain⟨fn,tmps,assign,body,h1,h2⟩:=hR.2 s x _ Z w (hxs rfl) hs.mem.fr.same j1 j2 r1 fun k hk=>⟨(r2 k hk).2.1,fun hkL=>by have:=hT k hkL;have:=(r2 k hk).1;omega⟩
    refine⟨l,fn,tmps,assign,body,w,hrun.trans h1,RoundIn.mono h2 ?_⟩
    rintro e W' ⟨rfl,hfr,Z',hj,hZ⟩
    refine⟨_,rfl,k Z' (fun k hk=>?_) ρ _ W' ((hs.remem0 (hs.mem.yielded hE hT hfr hx (hcalm rfl) (V:=vbk (av.conc ρ)) (fun y b hy ho hk=>(r2 _ hk).2.2 y b hy ho rfl) hj (hR.1 _ _) hZ) fun z hz=>isSome_up z hz).putT (dstOk_lt hd) ⟨fun _=>⟨trivial,rfl⟩,fun h=>by cases h⟩)⟩
    rcases (hZ k hk).1 with h|h|h
    · exact .inl h
    · exact .inr (r2 k h).1
    · exact .inr (Nat.le_trans hs.mem.fr.size h)
def limZ (B Z:Nat→Prop):Nat→Prop:=fun k=>Z k∧B k
theorem limZ_eq {B Z:Nat→Prop} (h:∀k,Z k→B k):limZ B Z=Z:=funext fun k=>propext ⟨fun h=>h.1,fun hk=>⟨hk,h k hk⟩⟩
def yieldGF {α:Type} (B:Nat→Prop) (xJ j:Nat) (want cb:Bool) (J:List α→(Nat→Prop)→World→Prop) (s':List α):Fam:=⟨fun _=>.grd j want cb (.c (.k (.bool true))),fun u=>[(xJ,.say (limZ B u.2) (J s' (limZ B u.2)))],[xJ],true⟩
theorem StepsC.yieldGF {α:Type} {ops:Array Oper} {o:Oper} {c:Call} {y z:Operand} {l j:Nat} {want cb:Bool} {av:AV} {C:St} {L:List Nat} {Rel:α→World→Value→Prop} {xs:List α} {J:List α→(Nat→Prop)→World→Prop} (xJ:Nat) (s:List α) (x:α) (Z:Nat→Prop)
    (hR:Rounds P l L Rel xs J E.w0) (hxs:cb=true→x∈xs) (hE:E.bor=borT 1000 L) (hT:∀k∈L,k<E.w0.heap.size) (hx:C.m xJ=some (.say Z (J s Z)))
    (hg:o.guard=some (j,want)) (hb:guardB ops C.t j want=some cb) (hob:AllP (stripObs C.t j want cb (slotsOf o.op.operands.toList))) (hop:o.op=.call c) (hc:c.callee=.value y) (ha:c.args=#[z])
    (hy:evT (tG C.t j want (slotsOf o.op.operands.toList)) y=.v (.c (.k (.func (.yield l) #[] #[])))) (hz:evT (tG C.t j want (slotsOf o.op.operands.toList)) z=.v av) (hd:dstOk E.N o.dst=true)
    (hcalm:cb=true→∀y b,y≠xJ→C.m y=some b→y<1000∧Blk.calm L 0 b)
    (hrel:cb=true→∀ρ w,SatM E ρ C.m w→av.ok ρ C.m→Rel x w (av.conc ρ)∧(∀k,vbk (av.conc ρ) k→E.w0.heap.size≤k∧k<w.heap.size∧∀y b,C.m y=some b→b.own→(ρ y).1≠k)):
    StepsC P E ops o C (Sx.yieldGF (fun k=>Z k∨E.w0.heap.size≤k) xJ j want cb J (bif cb then s++[x] else s)):=by
  intro st hle hfull ρ a w hs Kc Q hk
  have hm:st.m=C.m:=hfull rfl
  have hs':=hs.weakT hle.t
  have hw:=wanted_cond (ops:=ops) hs' hg hb
  have e:∀u,upm st.m ((Sx.yieldGF (fun k=>Z k∨E.w0.heap.size≤k) xJ j want cb J (bif cb then s++[x] else s)).ms u)=up st.m xJ (some (.say (limZ (fun k=>Z k∨E.w0.heap.size≤k) u.2) (J (bif cb then s++[x] else s) (limZ (fun k=>Z k∨E.w0.heap.size≤k) u.2)))):=fun u=>upm_one _ _ _
  rw[←hm]at hx hcalm hrel
  rw[hw]
  cases hcb:cb with
  |false=>
    subst hcb
    rw[if_neg (by simp)]
    refine hk (undef,Z) ρ _ w ?_
    have e2:up st.m xJ (some (.say Z (J s Z)))=st.m:=by
      funext q
      by_cases e:q=xJ
      · subst e;rw[up_same,hx]
      · rw[up_other _ _ e]
    rw[e,limZ_eq (fun k hk=>.inl hk)]
    simp only[cond_false,e2]
    exact hs.putT (dstOk_lt hd) (tv:=.grd j want false (.c (.k (.bool true)))) (v:=undef) ⟨fun ht=>(by cases ht),fun _=>rfl⟩
  |true=>
    subst hcb
    rw[if_pos rfl]
    refine .inr ?_
    obtain⟨hrun,hok⟩:=yield_run (hs'.tG hob rfl) hop hc ha hy hz
    obtain⟨j1,j2,j3⟩:=hs.mem.ok _ _ hx
    obtain⟨r1,r2⟩:=hrel rfl ρ w hs.mem hok
    obtain⟨fn,tmps,assign,body,h1,h2⟩:=hR.2 s x _ Z w (hxs rfl) hs.mem.fr.same j1 j2 r1 fun k hk=>⟨(r2 k hk).2.1,fun hkL=>by have:=hT k hkL;have:=(r2 k hk).1;omega⟩
    refine⟨l,fn,tmps,assign,body,w,hrun.trans h1,RoundIn.mono h2 ?_⟩
    rintro e' W' ⟨rfl,hfr,Z',hj,hZ⟩
    refine⟨_,rfl,hk (undef,Z') ρ _ W' ?_⟩
    rw[e,limZ_eq (Z:=Z') (fun k hk=>by
      rcases (hZ k hk).1 with h|h|h
      · exact .inl h
      · exact .inr (r2 k h).1
      · exact .inr (Nat.le_trans hs.mem.fr.size h))]
    exact ((hs.remem0 (hs.mem.yielded hE hT hfr hx (hcalm rfl) (V:=vbk (av.conc ρ)) (fun y b hy ho hk=>(r2 _ hk).2.2 y b hy ho rfl) hj (hR.1 _ _) hZ) fun z hz=>isSome_up z hz).putT (dstOk_lt hd) ⟨fun _=>⟨trivial,rfl⟩,fun h=>by cases h⟩)
end
end Go.Sx
namespace Go.Sx
open Go.RowKit
section
variable {P:Program} {E:Env} {K:Exit→St→Prop} {T:Tab}
theorem up_up {α:Type} (f:Nat→α) (d:Nat) (u v:α):up (up f d u) d v=up f d v:=by
  funext j
  by_cases e:j=d
  · subst e;rw[up_same,up_same]
  · rw[up_other _ _ e,up_other _ _ e,up_other _ _ e]
theorem Steps.loadOpen (hT:Tab.fine P T) {ops:Array Oper} {o:Oper} {C:St} {t b dd:Nat} {y:Operand} {S:Nat→Prop} {R:World→Prop} {d:TyD} {ty:TypeId} (X yn:Nat) (A:Option Addr) (n cap sz:Nat) (el:Nat→List Value) (hg:o.guard=none) (hop:o.op=.load t y) (ho:o.dst=some dd) (hd:dstOk E.N o.dst=true) (hy:evT C.t y=.v (.c (.k (.pointer (some ⟨b,0,none⟩)))))
    (hX:C.m X=some (.say S R)) (hR:∀w,R w→w.heap[b]?=some (.cells #[.slice A n cap] ty (0,0))) (ht:T t=some d) (hl:1=d.size) (hag:d.kind.isAgg=false) (hRd:∀w,R w→RdRow w A n sz el) (hS:∀k,sb (.slice A n cap) k→S k) (hyn:C.m yn=none) (hyb:Nat.blt yn 1000=true):
    Steps P E ops o C (.v (.c (.inp yn A n cap))) [(yn,.ro sz n el)]:=by
  intro st hle ρ a w hs Kc Q hk
  have hX':st.m X=some (.say S R):=by
    rcases hle.m X with h|h
    · rw[hX]at h;cases h
    · exact h.trans hX
  have hy':st.m yn=none:=(hle.n yn (by simp[mget])).trans hyn
  refine Steps.loadK hT X [.slice A n cap] hg hop hd hy hX (by simpa using hR) ht hl st ⟨hle.t,hle.m,hle.d,fun y h=>by cases h⟩ ρ a w hs Kc Q fun ρ' a' w' hs'=>?_
  have e1:loadAV d [Value.slice A n cap]=.c (.k (.slice A n cap)):=by unfold loadAV;rw[hag];rfl
  rw[e1,ho]at hs'
  have hs2:Sat E ρ' ⟨up st.t dd (.v (.c (.k (.slice A n cap)))),st.m⟩ a' w':=hs'
  obtain⟨ρ2,h2⟩:=hs2.openSay (X:=X) (y:=yn) (d:=dd) hX' hRd hS (up_same _ _ _) hy' (by simpa[Nat.blt_eq] using hyb)
  refine hk ρ2 a' w' ?_
  rw[ho,upm_one]
  rw[up_up]at h2
  exact h2
theorem StepsC.conv {ops:Array Oper} {o:Oper} {C:St} {F F':Fam} (h:StepsC P E ops o C F) (hn:F'.nm=F.nm) (hf:F'.full=F.full) (hF:∀(st:St) i ρ a w,Sat E ρ ⟨Sx.putT st.t o.dst (F.tv i),upm st.m (F.ms i)⟩ a w→∃i',F.tv i=F'.tv i'∧F.ms i=F'.ms i'):StepsC P E ops o C F':=by
  intro st hle hfull ρ a w hs Kc Q hk
  refine h st (by rw[←hn];exact hle) (fun e=>hfull (hf.trans e)) ρ a w hs Kc Q fun i ρ' a' w' hs'=>?_
  obtain⟨i',e1,e2⟩:=hF st i ρ' a' w' hs'
  rw[e1,e2]at hs'
  exact hk i' ρ' a' w' hs'
def adrK (u:Cho):Option Addr:=match u.1 with
  |.slice A _ _=>A
  |_=>none
def slV (n:Nat) (u:Cho):Value:=.slice (adrK u) n (capN n u)
def conS (x d n sz:Nat) (el:Nat→List Value):Fam:=⟨fun u=>.v (.c (.k (slV n u))),fun u=>[(d,.say (sb (slV n u)) (fun w=>RdV w (slV n u) n sz el)),(x,.ro 0 0 fun _=>[])],[d,x],false⟩
theorem conS_nm {x d n sz:Nat} {el:Nat→List Value}:∀u y,(mget ((conS x d n sz el).ms u) y).isSome=true→y∈(conS x d n sz el).nm:=by
  intro u y h
  simp only[conS,mget]at h ⊢
  cases hb:Nat.beq y d with
  |true=>rw[Nat.eq_of_beq_eq_true hb];simp
  |false=>
    rw[hb]at h
    cases hb:Nat.beq y x with
    |true=>rw[Nat.eq_of_beq_eq_true hb];simp
    |false=>rw[hb]at h;cases h
theorem slV_of {w:World} {v:Value} {S:Nat→Prop} {n sz:Nat} {el:Nat→List Value} (h:RdV w v (n+1) sz el):v=slV (n+1) (v,S):=by
  obtain⟨A,c,rfl,_,h2⟩:=h
  have:=h2 (Nat.succ_pos _)
  simp[slV,adrK,capN,capC,Nat.max_eq_left this]
theorem RdV.row {w:World} {A:Option Addr} {n c sz:Nat} {el:Nat→List Value} (h:RdV w (.slice A n c) n sz el):RdRow w A n sz el:=by
  obtain⟨A',c',e,h1,_⟩:=h
  cases e
  exact h1
theorem StepsC.appendConS {ops:Array Oper} {o:Oper} {s y:Operand} {t e size bytes d x n c q c1 room:Nat} {z:Value} {C:St} {el:Nat→List Value} {ty1:TypeId} (vs:List Value) (hp:ApT P t e size bytes z) (hg:o.guard=none) (hop:o.op=.call { callee:=.builtin .append,args:=#[s,y],argTypes:=#[t,t] })
    (hd:o.dst=some d) (hdN:Nat.blt d E.N=true) (hxb:Nat.blt x 1000=true) (hxd:Nat.beq x d=false) (hs:evT C.t s=.v (.c (.slc x 0 size n c))) (hx:C.m x=some (.arr e size n el room)) (hroom:(c-n)*size≤room) (hfree:C.m d=none)
    (hy:evT C.t y=.v (.c (.slc q 0 size 1 c1))) (hq:C.m q=some (.var ty1 (vs.map .k))) (hv:vs.length=size) (h1:∀u∈vs,u.oneCell'=true) (hlen:∀k,k<n→(el k).length=size) (b1:n+1≤maxLen) (b2:(n+1)*bytes≤140737488355328):
    StepsC P E ops o C (conS x d (n+1) size (elN el n vs)):=by
  refine (StepsC.appendCon vs hp hg hop hd hdN hxb hxd hs hx hroom hfree hy hq hv h1 hlen b1 b2).conv rfl rfl fun st i ρ a w hs'=>⟨i,?_⟩
  have hb:=hs'.mem.ok d (.say (sb i.1) (fun w=>RdV w i.1 (n+1) size (elN el n vs))) (by
    show upm st.m _ d=_
    simp[upm,conF,mget])
  have e:=slV_of (S:=i.2) hb.1
  have e:i.1=slV (n+1) i:=e
  unfold conF conS
  simp only
  rw[←e]
  exact⟨rfl,rfl⟩
def allMs (Q:Nat→Blk→Prop):List (Nat×Blk)→Prop
  |[]=>True
  |p::r=>Q p.1 p.2∧allMs Q r
theorem allMs_get {Q:Nat→Blk→Prop} {l:List (Nat×Blk)} (h:allMs Q l) {y:Nat} {b:Blk} (hb:mget l y=some b):Q y b:=by
  induction l with
  |nil=>cases hb
  |cons p r ih=>
    obtain⟨z,c⟩:=p
    unfold mget at hb
    cases e:Nat.beq y z with
    |true=>rw[e]at hb;rw[Nat.eq_of_beq_eq_true e];cases hb;exact h.1
    |false=>rw[e]at hb;exact ih h.2 hb
def allRc (Q:Nat→Blk→Prop):List DR→Prop
  |[]=>True
  |r::l=>allMs Q r.ms∧allRc Q l
theorem atR_all {Q:Blk→Prop} {D:Nat→Bool} {x:Nat} {recs:List DR} {b0:Option Blk} (h0:∀b,b0=some b→Q b) (hr:∀r∈recs,∀b,mget r.ms x=some b→Q b):∀b,atR D (gM x) recs b0=some b→Q b:=by
  induction recs with
  |nil=>exact h0
  |cons r l ih=>
    intro b hb
    have hi:=ih (fun r' hr'=>hr r' (List.mem_cons_of_mem _ hr'))
    simp only[atR]at hb
    split at hb
    · cases hm:mget r.ms x with
      |none=>simp only[gM,hm]at hb;exact hi b hb
      |some c=>
        simp only[gM,hm]at hb
        cases hb
        exact hr r List.mem_cons_self _ hm
    · exact hi b hb
theorem allRc_mem {Q:Nat→Blk→Prop} {recs:List DR} (h:allRc Q recs):∀r∈recs,allMs Q r.ms:=by
  induction recs with
  |nil=>intro r hr;cases hr
  |cons q l ih=>
    intro r hr
    cases hr with
    |head=>exact h.1
    |tail _ hr=>exact ih h.2 r hr
theorem canF_all {Q:Nat→Blk→Prop} {l:List Oper} {cls:List Nat} {X:List (Nat×Nat)} {base:St} {i:Nat} {recs:List DR} (hi:recs.length=i) (hb:∀y b,base.m y=some b→Q y b) (hr:allRc Q recs):∀y b,(canF l cls X base i recs).m y=some b→Q y b:=by
  intro y b h
  rw[canF_eq hi]at h
  simp only[can]at h
  split at h
  · cases h
  · exact atR_all (fun b=>hb y b) (fun r hm b hg=>allMs_get (allRc_mem hr r hm) hg) b h
def boxR (u v:Value) (tx ty:TypeId) (lo:Nat) (g:Nat×Nat) (w:World):Prop:=(w.heap[g.1]?=some (.cells #[u] tx (0,0))∧w.heap[g.2]?=some (.cells #[v] ty (0,0)))∧lo≤g.1∧lo≤g.2
def boxV (f:FuncId) (g:Nat×Nat):Value:=.func (.func f) #[] #[.pointer (some ⟨g.1,0,none⟩),.pointer (some ⟨g.2,0,none⟩)]
def boxS (g:Nat×Nat) (k:Nat):Prop:=k=g.1∨k=g.2
def Box2 (f:FuncId) (u v:Value) (tx ty:TypeId) (lo:Nat) (w w':World) (e:Ending):Prop:=∃g:Nat×Nat,e=.returned (boxV f g)∧Below w.heap.size w w'∧boxR u v tx ty lo g w'∧(∀k,boxS g k→w.heap.size≤k∧k<w'.heap.size)∧Steady (boxS g) (boxR u v tx ty lo g)
theorem boxR_steady {u v:Value} {tx ty:TypeId} {lo:Nat} {g:Nat×Nat}:Steady (boxS g) (boxR u v tx ty lo g):=fun _ _ h1 _ h=>⟨⟨(h1 g.1 (.inl rfl)).trans h.1.1,(h1 g.2 (.inr rfl)).trans h.1.2⟩,h.2⟩
theorem retBox2 (hT:Tab.fine P T) {w:World} {N:Nat} {fn:Func} {st:St} {f x y lo:Nat} {u v:Value} {tx ty:TypeId} {r:ResultVar} (hr:fn.results.toList=[r]) (h1:resOne T st r=.v (.c (.fn f [.own x 0,.own y 0]))) (hx:st.m x=some (.var tx [.k u])) (hy:st.m y=some (.var ty [.k v])) (hlo:lo≤w.heap.size):
    retK P ⟨w,[],N,none,[]⟩ fn (fun e w'=>Box2 f u v tx ty lo w w' e) .ret st:=by
  refine⟨.inl rfl,fun ρ a w' hs=>?_⟩
  obtain⟨h6,_⟩:=resOne_run hT hs h1
  have k1:=hs.mem.ok x _ hx
  have k2:=hs.mem.ok y _ hy
  have p1:w.heap.size≤(ρ x).1:=by
    rcases hs.mem.ownGe hx trivial with h|h
    · exact h
    · cases h
  have p2:w.heap.size≤(ρ y).1:=by
    rcases hs.mem.ownGe hy trivial with h|h
    · exact h
    · cases h
  have q1:=hs.mem.lt hx trivial
  have q2:=hs.mem.lt hy trivial
  refine⟨_,results_one hr h6,((ρ x).1,(ρ y).1),?_,hs.mem.fr.toBelow,⟨⟨?_,?_⟩,by simp only;omega,by simp only;omega⟩,?_,boxR_steady⟩
  · simp[AV.conc,AC.conc,Cap.conc,boxV,k1.1,k2.1]
  · simpa[AC.conc] using k1.2.2.1
  · simpa[AC.conc] using k2.2.2.1
  · rintro k (rfl|rfl)
    · exact⟨p1,q1⟩
    · exact⟨p2,q2⟩
end
end Go.Sx
namespace Go.Sx
open Go.RowKit
section
variable {P:Program} {E:Env} {K:Exit→St→Prop} {T:Tab}
theorem G.tellF {c:Code} {t:Nat→TV} {m:Mem} (y:Nat) (R:World→Prop) (hR:∀w,R w) (hy:m y=none) (k:G P E K c ⟨t,up m y (some (.say (fun _=>False) R))⟩):G P E K c ⟨t,m⟩:=G.sem fun ρ a w hs=>
  ⟨ρ,_,hs.tell (fun _=>False) R (hR w) (fun k hk=>hk.elim) (fun _ w2 _ _ _=>hR w2) (fun b hb=>by rw[hy]at hb;cases hb) (fun z c hz hc hk=>hk),k⟩
theorem G.bothS {c:Code} {t:Nat→TV} {m:Mem} (y x1 x2:Nat) {S1 S2:Nat→Prop} {R1 R2:World→Prop} (S:Nat→Prop) (R:World→Prop) (h1:m x1=some (.say S1 R1)) (h2:m x2=some (.say S2 R2)) (hS1:∀k,S k→S1 k∨S2 k) (hst:Steady S1 R1→Steady S2 R2→Steady S R) (hR:∀w,R1 w→R2 w→R w) (hy:∀b,m y=some b→∃S R,b=.say S R)
    (k:G P E K c ⟨t,up m y (some (.say S R))⟩):G P E K c ⟨t,m⟩:=G.sem fun ρ a w hs=>by
  obtain⟨a1,a2,a3⟩:=hs.mem.ok _ _ h1
  obtain⟨b1,b2,b3⟩:=hs.mem.ok _ _ h2
  refine⟨ρ,_,hs.tell S R (hR w a1 b1) (fun k hk=>(hS1 k hk).elim (a2 k) (b2 k)) (hst a3 b3) hy (fun z d hz hd hk=>?_),k⟩
  rcases hS1 _ hk with hk|hk
  · exact hs.mem.ne z x1 d _ hz h1 hd trivial (fun e=>by subst e;rw[h1]at hz;cases hz;exact hd) hk
  · exact hs.mem.ne z x2 d _ hz h2 hd trivial (fun e=>by subst e;rw[h2]at hz;cases hz;exact hd) hk
theorem Steps.allocVar (hT:Tab.fine P T) {ops:Array Oper} {o:Oper} {C:St} {t x sz:Nat} {d:TyD} (hg:o.guard=none) (hop:o.op=.alloc t) (ho:o.dst=some x) (hd:dstOk E.N o.dst=true) (hx:C.m x=none) (hxb:Nat.blt x 1000=true) (ht:T t=some d):
    Steps P E ops o C (.v (.c (.ptr x 0 sz 0))) [(x,.var t (d.zero.map .k))]:=by
  intro st hle ρ a w hs Kc Q hk
  have hx':st.m x=none:=(hle.n x (by simp[mget])).trans hx
  rw[if_pos (by simp[Region.wanted,hg])]
  refine .inl ?_
  have hm:=hs.mem
  have hrun:(execOp a.eval o).run P w=.ok (.value (.pointer (some ⟨w.heap.size,0,none⟩))) (w.alloc (.cells d.zv.cells t (0,0))):=by
    simp only[execOp,hop,Instr.alloc,Sem.run_bind,(hT.ok t d ht).zero w,Result.andThen_ok,run_newVar',Sem.run_pure]
  have hz:=(hT.ok t d ht).zc
  have hnew:=hm.newVar hx' (by simpa[Nat.blt_eq] using hxb) t (cells:=d.zero.map .k) (fun c hc=>by obtain⟨v,_,rfl⟩:=List.mem_map.1 hc;trivial)
  have e:d.zero.toArray=d.zv.cells:=by rw[←hz]
  rw[map_conc_k,e]at hnew
  refine Snd.go hs (dstOk_lt hd) (tv:=.v (.c (.ptr x 0 sz 0))) (Snd.new hx' hnew hrun (ptr_rep_new _ _ _)) fun ρ' a' w' hs''=>hk ρ' a' w' ?_
  rw[upm_one]
  exact hs''
theorem Steps.opGuard (hT:Tab.fine P T) {ops:Array Oper} {o:Oper} {C:St} {j:Nat} {want cb:Bool} {av:AV} {m':Mem} {obs:List Prop} (hg:o.guard=some (j,want)) (hb:guardB ops C.t j want=some cb) (hob:AllP (stripObs C.t j want cb (slotsOf o.op.operands.toList))) (hd:dstOk E.N o.dst=true)
    (h:evOp T (dx o) (evG C.t j want (slotsOf o.op.operands.toList)) C.m o.op=.ok (.v av) m' obs) (ho:AllP obs) (hms:msOf (evG C.t j want (slotsOf o.op.operands.toList)) (dx o) o.op m'=[]):Steps P E ops o C (.grd j want cb av) []:=by
  cases hcb:cb with
  |true=>
    subst hcb
    have:=Steps.opT (P:=P) (E:=E) hT rfl hg hb hob hd h ho
    rw[hms]at this
    exact this
  |false=>
    subst hcb
    intro st hle ρ a w hs Kc Q hk
    have hs':=hs.weakT hle.t
    have hw:=wanted_cond (ops:=ops) hs' hg hb
    rw[hw,if_neg (by simp)]
    refine hk ρ _ w ?_
    exact hs.putT (dstOk_lt hd) (tv:=.grd j want false av) (v:=undef) ⟨fun ht=>(by cases ht),fun _=>rfl⟩
theorem Steps.make1 {ops:Array Oper} {o:Oper} {C:St} {l c:Operand} {t e bytes d:Nat} {z:Value} {kl kc:IntKind} (n:Nat) (hp:ApT P t e 1 bytes z) (hz1:z.cells=#[z]) (hg:o.guard=none) (hop:o.op=.makeSlice t l c)
    (hd:o.dst=some d) (hdN:Nat.blt d E.N=true) (hdb:Nat.blt d 1000=true) (hfree:C.m d=none) (hl:evT C.t l=.v (.c (.k (.int kl (n:Int))))) (hc:evT C.t c=.v (.c (.k (.int kc (n:Int))))) (h0:0<n) (b1:n≤maxLen) (b2:bytes*n≤281474976710656):
    Steps P E ops o C (.v (.c (.slc d 0 1 n n))) [(d,.arr e 1 n (fun _=>[z]) ((n-n)*1))]:=by
  intro st hle ρ a w hsat Kc Q hk
  have hs':=hsat.weakT hle.t
  obtain⟨i,hi,hz,hs,hb⟩:=hp.info
  have el:a.eval l=.int kl (n:Int):=by have:=hs'.eval l;rw[show (St.mk C.t st.m).ev l=_ from hl]at this;exact this.2
  have ec:a.eval c=.int kc (n:Int):=by have:=hs'.eval c;rw[show (St.mk C.t st.m).ev c=_ from hc]at this;exact this.2
  have hfree':st.m d=none:=(hle.n d (by simp[mget])).trans hfree
  obtain⟨w',hrun,r1,r2⟩:=run_make_full (P:=P) w w.heap.size t e i z 1 hp.ht hi hz hs kl kc n (by rw[hb];exact b2) b1 (Nat.le_refl _)
  have hcells:(madeCells z.cells (n*1)).toList=flatE (fun _=>[z]) 0 n:=by
    rw[hz1,toList_madeCells_one,Nat.mul_one]
    have:∀(k i:Nat),flatE (fun _=>[z]) i k=List.replicate k z:=by
      intro k
      induction k with
      |zero=>intro i;rfl
      |succ k ih=>intro i;rw[flatE,ih];rfl
    exact (this n 0).symm
  rw[hcells]at r1
  rw[if_pos (by simp[Region.wanted,hg])]
  refine .inl ?_
  unfold Oper.wp
  have:(execOp a.eval o).run P w=.ok (.value (.slice (some ⟨w.heap.size,0,none⟩) n n)) w':=by
    simp[execOp,hop,el,ec,hrun,Result.andThen]
  rw[this]
  obtain⟨ρ',c',h2,h3,h4,h5⟩:=hsat.mem.newOwn hfree' (by simpa[Nat.blt_eq] using hdb) (el:=fun _=>[z]) (fun i hi=>rfl) h0 r1 r2
  have hcn:c'=n:=by
    have h6:Value.slice (some ⟨w.heap.size,0,none⟩) n n=Value.slice (some ⟨(ρ' d).1,(ρ' d).2+0*1,none⟩) n c':=h5
    injection h6 with _ _ h7
    exact h7.symm
  subst hcn
  refine hk ρ' _ w' ?_
  rw[hd,upm_one]
  refine (hsat.move h4 (fun y hy=>isSome_up y hy) h3).put (by simpa[Nat.blt_eq] using hdN) ⟨?_,h5⟩
  show (up st.m d _ d).isSome=true
  rw[up_same];rfl
theorem SatM.told2 {ρ:Val} {m:Mem} {w w':World} (h:SatM E ρ m w) (hb:Below w.heap.size w w') {x X:Nat} {S S1:Nat→Prop} {R R1:World→Prop} (hx:m x=none) (hX:m X=some (.say S1 R1)) (hr:R w') (hs:∀k,S k→(w.heap.size≤k∨S1 k)∧k<w'.heap.size) (hst:Steady S R):SatM E ρ (up m x (some (.say S R))) w':=by
  have h2:=h.below hb
  refine h2.swap h2.fr (Nat.le_refl _) (fun z hz=>isSome_up z hz) fun z b hz=>?_
  by_cases e:z=x
  · subst e
    rw[up_same]at hz
    injection hz with hz
    subst hz
    refine .inr (.inl ⟨S,R,rfl,hr,fun k hk=>(hs k hk).2,hst,fun z2 c hz2 hc ho hk=>?_⟩)
    rw[up_other _ _ hz2]at hc
    rcases (hs _ hk).1 with h1|h1
    · have:=h.lt hc ho
      omega
    · exact h.ne z2 X c _ hc hX ho trivial (fun e=>by subst e;rw[hX]at hc;cases hc;exact ho) h1
  · rw[up_other _ _ e]at hz
    exact .inl ⟨hz,fun _ _ _=>rfl⟩
theorem StepsC.callSayX {ops:Array Oper} {o:Oper} {c:Call} {f:FuncId} {avs:List AV} {caps:List Cap} {C:St} {S1:Nat→Prop} {R1:World→Prop} (X x:Nat) (val:Cho→Value) (S:Cho→Nat→Prop) (R:Cho→World→Prop) (hg:o.guard=none) (hop:o.op=.call c) (he:callE C.t c=.mk f avs caps) (hd:dstOk E.N o.dst=true) (hx:C.m x=none) (hX:C.m X=some (.say S1 R1))
    (hcf:∀(args:Array Value) (w:World),(callFunc f args).run P w=.ok (.enter f args) w)
    (hc:∀m,LeM C.m m→∀ρ w,SatM E ρ m w→(∀v∈avs,v.ok ρ m)→Calls P f (avs.map (AV.conc ρ)++caps.map (Cap.conc ρ)).toArray w fun e w'=>∃u,e=.returned (val u)∧Below w.heap.size w w'∧R u w'∧(∀k,S u k→(w.heap.size≤k∨S1 k)∧k<w'.heap.size)∧Steady (S u) (R u)):
    StepsC P E ops o C (sayF x val S R):=by
  intro st hle _ ρ a w hs Kc Q hk
  have hs':=hs.weakT hle.t
  obtain⟨hr,hok,hok2⟩:=call_run hs' hop he hcf
  rw[if_pos (by simp[Region.wanted,hg])]
  refine .inl ?_
  unfold Oper.wp
  rw[hr]
  refine (hc st.m hle.m ρ w hs.mem hok).mono ?_
  rintro e w' ⟨u,rfl,hb,hR,hS,hst⟩
  refine hk u ρ _ w' ?_
  have hx':st.m x=none:=(hle.n x (nmM_mem (by simp[sayF]))).trans hx
  have hX':st.m X=some (.say S1 R1):=by
    rcases hle.m X with h|h
    · rw[hX]at h;cases h
    · exact h.trans hX
  have e:upm st.m ((sayF x val S R).ms u)=up st.m x (some (.say (S u) (R u))):=upm_one _ _ _
  rw[e]
  exact ((hs.below hb).remem0 (hs.mem.told2 hb hx' hX' hR hS hst) (fun z hz=>isSome_up z hz)).putT (dstOk_lt hd) (toTV_rep _ _ _)
theorem GO.callSayX {ι:Type} {ops:Array Oper} {rest:List Oper} {o:Oper} {c:Call} {f:FuncId} {avs:List AV} {caps:List Cap} {t:Nat→TV} {m:Mem} {S1:Nat→Prop} {R1:World→Prop} (X x:Nat) (val:ι→Value) (S:ι→Nat→Prop) (R:ι→World→Prop) (hg:o.guard=none) (hop:o.op=.call c) (he:callE t c=.mk f avs caps) (hd:dstOk E.N o.dst=true) (hx:m x=none) (hX:m X=some (.say S1 R1))
    (hcf:∀(args:Array Value) (w:World),(callFunc f args).run P w=.ok (.enter f args) w)
    (hc:∀ρ w,SatM E ρ m w→(∀v∈avs,v.ok ρ m)→Calls P f (avs.map (AV.conc ρ)++caps.map (Cap.conc ρ)).toArray w fun e w'=>∃i,e=.returned (val i)∧Below w.heap.size w w'∧R i w'∧(∀k,S i k→(w.heap.size≤k∨S1 k)∧k<w'.heap.size)∧Steady (S i) (R i))
    (k:∀i,GO P E ops K rest ⟨Sx.putT t o.dst (toTV (val i)),up m x (some (.say (S i) (R i)))⟩):GO P E ops K (o::rest) ⟨t,m⟩:=by
  refine GO.call hg hop he hcf (fun ρ a w hs hok _=>(hc ρ w hs.mem hok).mono ?_)
  rintro e w' ⟨i,rfl,hb,hr,hk,hst⟩
  exact⟨_,ρ,_,rfl,((hs.below hb).remem0 (hs.mem.told2 hb hx hX hr hk hst) (fun z hz=>isSome_up z hz)).putT (dstOk_lt hd) (toTV_rep _ _ _),k i⟩
theorem GO.choice {ops:Array Oper} {rest:List Oper} {o:Oper} {st:St} {F:Fam} (h:StepsC P E ops o st F) (k:∀u,GO P E ops K rest ⟨Sx.putT st.t o.dst (F.tv u),upm st.m (F.ms u)⟩):GO P E ops K (o::rest) st:=by
  intro ρ a w hs
  have:=h st (Le.refl _ _ _) (fun _=>rfl) ρ a w hs (wpL P ops (QK E K) rest) (QK E K) fun u ρ' a' w' hs'=>k u ρ' a' w' hs'
  unfold wpL
  split
  · rename_i hw
    rw[if_pos hw]at this
    exact this
  · rename_i hw
    rw[if_neg hw]at this
    exact this
theorem assign_wp {l:Nat} (h0:E.rnd=some l) {c:Code} {st st':St} {ρ:Val} {a:Act} {w:World} (hs:Sat E ρ st a w) (hn:nd c=true) (h:G P E (fun e s=>e=.normal∧St.le E st' s) c st):c.wpIn (fenR (some l)) 6 P (fun e a₁ w₁=>e=.normal∧∃ρ,Sat E ρ st' a₁ w₁) a w:=by
  have h1:=h (fun _=>hn) ρ a w hs
  rw[h0]at h1
  refine wpIn_mono h1 ?_
  rintro e a' w' ⟨ρ',s,hs',rfl,hl⟩
  exact⟨rfl,ρ',hl _ _ _ hs'⟩
theorem body_wp {l:Nat} (h0:E.rnd=some l) {c:Code} {st:St} {ρ:Val} {a:Act} {w:World} {Q:Exit→Act→World→Prop} (hs:Sat E ρ st a w) (hn:nd c=true) (h:G P E K c st) (hQ:∀e ρ s a w,Sat E ρ s a w→K e s→Q e a w):c.wpIn (fenR (some l)) 6 P Q a w:=by
  have h1:=h (fun _=>hn) ρ a w hs
  rw[h0]at h1
  refine wpIn_mono h1 ?_
  rintro e a' w' ⟨ρ',s,hs',hk⟩
  exact hQ e ρ' s a' w' hs' hk
theorem raw_wp (h0:E.rnd=none) {c:Code} {st:St} {ρ:Val} {a:Act} {w:World} {Q:Exit→Act→World→Prop} (hs:Sat E ρ st a w) (h:G P E K c st) (hQ:∀e ρ s a w,Sat E ρ s a w→K e s→Q e a w):c.wpIn (fenR none) 6 P Q a w:=by
  have h1:=h (fun hr=>by rw[h0]at hr;cases hr) ρ a w hs
  rw[h0]at h1
  refine wpIn_mono h1 ?_
  rintro e a' w' ⟨ρ',s,hs',hk⟩
  exact hQ e ρ' s a' w' hs' hk
theorem Sat.toPtr {ρ:Val} {st:St} {a:Act} {w:World} (hs:Sat E ρ st a w) {d g:Nat} (x:Nat) (h:st.t d=.v (.c (.k (.pointer (some ⟨g,0,none⟩))))) (hb:(x,g)∈E.bor) (hx:(st.m x).isSome=true):Sat E ρ ⟨up st.t d (.v (.c (.ptr x 0 0 0))),st.m⟩ a w:=by
  obtain⟨t,m⟩:=st
  refine hs.remem hs.mem (fun z hz=>hz) ?_
  have h1:=hs.tm d
  rw[h]at h1
  have h2:=(hs.mem.bo _ hb).1
  simp only at h2
  refine⟨hx,h1.2.trans ?_⟩
  simp[AV.conc,AC.conc,h2]
theorem SatM.accRow {ρ:Val} {m:Mem} {w:World} (h:SatM E ρ m w) {x n sz c:Nat} {e:TypeId} {el:Nat→List Value} (hx:m x=some (accB e sz n c el)):∃A,AC.conc ρ (accV x sz n c)=.slice A n (accC n c)∧RdRow w A n sz el:=by
  cases n with
  |zero=>exact⟨none,rfl,RdRow.nil _ _ _ _⟩
  |succ n=>
    have h1:=h.ok x _ hx
    have:=h.rdArr hx 0 (n+1) (by omega)
    simp only[Nat.zero_mul,Nat.add_zero,Nat.zero_add,h1.1]at this
    exact⟨some ⟨(ρ x).1,0,none⟩,by simp[accV,accC,AC.conc,h1.1],this⟩
theorem calm_accB {L:List Nat} {e:TypeId} {sz n c:Nat} {el:Nat→List Value}:Blk.calm L 0 (accB e sz n c el):=by
  cases n<;>first
    |rfl
    |trivial
theorem mget_snoc {l:List (Nat×Blk)} {d:Nat} {b:Blk} {y:Nat}:mget (l++[(d,b)]) y=match mget l y with
  |some c=>some c
  |none=>bif Nat.beq y d then some b else none:=by
  induction l with
  |nil=>rfl
  |cons p r ih=>
    obtain⟨z,c⟩:=p
    simp only[List.cons_append,mget]
    cases Nat.beq y z with
    |true=>rfl
    |false=>exact ih
theorem upm_app {m:Mem} {l:List (Nat×Blk)} {d:Nat} {b:Blk} (h:mget l d=none):upm m (l++[(d,b)])=up (upm m l) d (some b):=by
  funext y
  simp only[upm,mget_snoc]
  by_cases e:y=d
  · subst e
    rw[h,up_same]
    simp
  · rw[up_other _ _ e]
    have:Nat.beq y d=false:=nbeq e
    cases hl:mget l y with
    |none=>simp[this,upm,hl]
    |some c=>simp[upm,hl]
theorem StepsC.also {ops:Array Oper} {o:Oper} {C:St} {F F':Fam} {S:Nat→Prop} {R:World→Prop} (X d2:Nat) (h:StepsC P E ops o C F) (hf1:F.full=false) (hf:F'.full=false) (hn:F'.nm=F.nm++[d2]) (hdn:∀i,mget (F.ms i) d2=none) (hC:C.m X=some (.say S R)) (hfree:C.m d2=none) (hXn:∀i,mget (F.ms i) X=none)
    (hF:∀i,∃i' S' R',F'.tv i'=F.tv i∧F'.ms i'=F.ms i++[(d2,.say S' R')]∧(∀k,S' k→S k)∧(∀w,R w→R' w)∧Steady S' R'):StepsC P E ops o C F':=by
  intro st hle hfull ρ a w hs Kc Q hk
  have hX:st.m X=some (.say S R):=by
    rcases hle.m X with h|h
    · rw[hC]at h;cases h
    · exact h.trans hC
  refine h st ⟨hle.t,hle.m,hle.d,fun y hy=>hle.n y ?_⟩ (fun e=>by rw[hf1]at e;cases e) ρ a w hs Kc Q fun i ρ' a' w' hs'=>?_
  · have:=nmM_some hy
    refine nmM_mem ?_
    rw[hn]
    exact List.mem_append_left _ this
  obtain⟨i',S',R',e1,e2,e3,e4,e5⟩:=hF i
  refine hk i' ρ' a' w' ?_
  rw[e1,e2,upm_app (hdn i)]
  have hX':upm st.m (F.ms i) X=some (.say S R):=by
    simp only[upm,hXn i]
    exact hX
  obtain⟨q1,q2,q3⟩:=hs'.mem.ok X _ hX'
  refine hs'.tell S' R' (e4 _ q1) (fun k hk=>q2 k (e3 k hk)) e5 (fun b hb=>?_) (fun z c hz hc hk=>?_)
  · have e:upm st.m (F.ms i) d2=st.m d2:=by simp only[upm,hdn i]
    rw[e]at hb
    have:st.m d2=none:=(hle.n d2 (nmM_mem (by rw[hn];simp))).trans hfree
    rw[this]at hb
    cases hb
  · have hzX:z≠X:=fun e=>by subst e;rw[hX']at hz;cases hz;exact hc
    exact hs'.mem.ne z X c _ hz hX' hc trivial hzX (e3 _ hk)
def pr1 (u:Cho):Cho:=((match u.1 with
  |.agg cs=>cs.getD 0 undef
  |v=>v),u.2)
def pr2 (u:Cho):Cho:=((match u.1 with
  |.agg cs=>cs.getD 1 undef
  |v=>v),u.2)
def accS (x d d2 n sz:Nat) (e:TypeId) (el:Nat→List Value) (n1 s1:Nat) (el1:Nat→List Value):Fam:=
  ⟨fun u=>.v (.c (.slc d 0 sz (n+1) (capN (n+1) (pr1 u)))),fun u=>[(d,.arr e sz (n+1) (elN el n [slV n1 (pr2 u)]) ((capN (n+1) (pr1 u)-(n+1))*sz)),(x,.ro 0 0 fun _=>[]),(d2,.say (sb (slV n1 (pr2 u))) (fun w=>RdV w (slV n1 (pr2 u)) n1 s1 el1))],[d,x,d2],false⟩
theorem accS_nm {x d d2 n sz:Nat} {e:TypeId} {el:Nat→List Value} {n1 s1:Nat} {el1:Nat→List Value}:∀u y,(mget ((accS x d d2 n sz e el n1 s1 el1).ms u) y).isSome=true→y∈(accS x d d2 n sz e el n1 s1 el1).nm:=by
  intro u y h
  simp only[accS,mget]at h ⊢
  cases hb:Nat.beq y d with
  |true=>rw[Nat.eq_of_beq_eq_true hb];simp
  |false=>
    rw[hb]at h
    cases hb:Nat.beq y x with
    |true=>rw[Nat.eq_of_beq_eq_true hb];simp
    |false=>
      rw[hb]at h
      cases hb:Nat.beq y d2 with
      |true=>rw[Nat.eq_of_beq_eq_true hb];simp
      |false=>rw[hb]at h;cases h
theorem StepsC.appendAccS {ops:Array Oper} {o:Oper} {s y:Operand} {t e size bytes d x n c q c1 n1 s1:Nat} {z:Value} {C:St} {el el1:Nat→List Value} {ty1:TypeId} (X d2:Nat) (u0:Cho) (hp:ApT P t e size bytes z) (hg:o.guard=none) (hop:o.op=.call { callee:=.builtin .append,args:=#[s,y],argTypes:=#[t,t] })
    (hd:o.dst=some d) (hdN:Nat.blt d E.N=true) (hdb:Nat.blt d 1000=true) (hxb:Nat.blt x 1000=true) (hxd:Nat.beq x d=false) (hs:evT C.t s=.v (.c (accV x size n c))) (hx:C.m x=some (accB e size n c el)) (hfree:C.m d=none)
    (hy:evT C.t y=.v (.c (.slc q 0 size 1 c1))) (hq:C.m q=some (.var ty1 [.k (slV n1 u0)])) (hv:1=size) (hlen:∀k,k<n→(el k).length=size) (b1:n+1≤maxLen) (b2:(n+1)*bytes≤140737488355328)
    (hX:C.m X=some (.say (sb (slV n1 u0)) (fun w=>RdV w (slV n1 u0) n1 s1 el1))) (hfree2:C.m d2=none) (h2d:Nat.beq d2 d=false) (h2x:Nat.beq d2 x=false) (hXd:Nat.beq X d=false) (hXx:Nat.beq X x=false):
    StepsC P E ops o C (accS x d d2 n size e el n1 s1 el1):=by
  refine StepsC.also X d2 (StepsC.appendAcc [slV n1 u0] hp hg hop hd hdN hdb hxb hxd hs hx hfree hy hq hv (fun u hu=>by simp at hu;subst hu;rfl) hlen b1 b2) rfl rfl rfl (fun i=>?_) hX hfree2 (fun i=>?_) fun i=>?_
  · simp[accF,mget,h2d,h2x]
  · simp[accF,mget,hXd,hXx]
  · refine⟨(.agg #[i.1,u0.1],i.2),_,_,rfl,rfl,fun k hk=>hk,fun w hw=>hw,steady_rdv⟩
theorem rdNew_sb {w w':World} {A:Option Addr} {n sz c:Nat} {el:Nat→List Value} (h:RdNew w w' A n sz el):∀k,sb (.slice A n c) k→w.heap.size≤k∧k<w'.heap.size:=by
  rintro k ⟨h0,a,e,rfl⟩
  obtain⟨b,o,e2,h1,h2,_⟩:=h h0
  rw[e2]at e
  cases e
  exact⟨h1,h2⟩
theorem Ans.rat {w w':World} {n sz:Nat} {el:Nat→List Value} {v:Value} {e:Ending} (h:Ans w w' [.agg [.r n sz el,.p v]] e):∃A c,e=.returned (.agg #[.slice A n c,v])∧n≤c∧RdNew w w' A n sz el:=by
  obtain⟨cs,h1,rfl⟩:=h
  match cs,h1 with
  |[u1,u2],⟨⟨A,c,e1,h2,_,h3⟩,e2,_⟩=>
    subst e1
    have e2:u2=v:=e2
    subst e2
    exact⟨A,c,rfl,h2,h3⟩
  |[],h=>exact h.elim
  |[_],h=>exact h.2.elim
  |_::_::_::_,h=>exact h.2.2.elim
theorem Ans.row {w w':World} {n sz:Nat} {el:Nat→List Value} {e:Ending} (h:Ans w w' [.c (.r n sz el)] e):∃A c,e=.returned (.slice A n c)∧n≤c∧RdNew w w' A n sz el:=by
  obtain⟨cs,h1,rfl⟩:=h
  match cs,h1 with
  |[u1],⟨⟨A,c,e1,h2,_,h3⟩,_⟩=>
    subst e1
    exact⟨A,c,rfl,h2,h3⟩
  |[],h=>exact h.elim
  |_::_::_,h=>exact h.2.elim
theorem slV_eq {A:Option Addr} {n c:Nat} {S:Nat→Prop} (h:n≤c):slV n (.slice A n c,S)=.slice A n c:=by
  simp[slV,adrK,capN,capC,Nat.max_eq_left h]
theorem sayG_nm {x j:Nat} {want cb:Bool} {val:Cho→AV} {S:Cho→Nat→Prop} {R:Cho→World→Prop}:∀u y,(mget ((sayG x j want cb val S R).ms u) y).isSome=true→y∈(sayG x j want cb val S R).nm:=by
  intro u y h
  simp only[sayG,mget]at h ⊢
  cases hb:Nat.beq y x with
  |true=>rw[Nat.eq_of_beq_eq_true hb];simp
  |false=>rw[hb]at h;cases h
theorem yieldGF_nm {α:Type} {B:Nat→Prop} {xJ j:Nat} {want cb:Bool} {J:List α→(Nat→Prop)→World→Prop} {s':List α}:∀u y,(mget ((yieldGF B xJ j want cb J s').ms u) y).isSome=true→y∈(yieldGF B xJ j want cb J s').nm:=by
  intro u y h
  simp only[yieldGF,mget]at h ⊢
  cases hb:Nat.beq y xJ with
  |true=>rw[Nat.eq_of_beq_eq_true hb];simp
  |false=>rw[hb]at h;cases h
end
end Go.Sx
namespace Go.Sx
open Go.RowKit
section
variable {P:Program} {E:Env} {K:Exit→St→Prop} {T:Tab}
def accZ (x d d2 n sz:Nat) (e:TypeId) (el:Nat→List Value) (n1:Nat) (R:Value→World→Prop) (vs:List Value):Fam:=
  ⟨fun u=>.v (.c (.slc d 0 sz (n+1) (capN (n+1) (pr1 u)))),fun u=>[(d,.arr e sz (n+1) (elN el n (slV n1 (pr2 u)::vs)) ((capN (n+1) (pr1 u)-(n+1))*sz)),(x,.ro 0 0 fun _=>[]),(d2,.say (sb (slV n1 (pr2 u))) (R (slV n1 (pr2 u))))],[d,x,d2],false⟩
theorem accZ_nm {x d d2 n sz:Nat} {e:TypeId} {el:Nat→List Value} {n1:Nat} {R:Value→World→Prop} {vs:List Value}:∀u y,(mget ((accZ x d d2 n sz e el n1 R vs).ms u) y).isSome=true→y∈(accZ x d d2 n sz e el n1 R vs).nm:=by
  intro u y h
  simp only[accZ,mget]at h ⊢
  cases hb:Nat.beq y d with
  |true=>rw[Nat.eq_of_beq_eq_true hb];simp
  |false=>
    rw[hb]at h
    cases hb:Nat.beq y x with
    |true=>rw[Nat.eq_of_beq_eq_true hb];simp
    |false=>
      rw[hb]at h
      cases hb:Nat.beq y d2 with
      |true=>rw[Nat.eq_of_beq_eq_true hb];simp
      |false=>rw[hb]at h;cases h
theorem StepsC.appendAccZ {ops:Array Oper} {o:Oper} {s y:Operand} {t e size bytes d x n c q c1 n1:Nat} {R:Value→World→Prop} {z:Value} {C:St} {el:Nat→List Value} {ty1:TypeId} (X d2:Nat) (u0:Cho) (vs:List Value) (hp:ApT P t e size bytes z) (hg:o.guard=none) (hop:o.op=.call { callee:=.builtin .append,args:=#[s,y],argTypes:=#[t,t] })
    (hd:o.dst=some d) (hdN:Nat.blt d E.N=true) (hdb:Nat.blt d 1000=true) (hxb:Nat.blt x 1000=true) (hxd:Nat.beq x d=false) (hs:evT C.t s=.v (.c (accV x size n c))) (hx:C.m x=some (accB e size n c el)) (hfree:C.m d=none)
    (hy:evT C.t y=.v (.c (.slc q 0 size 1 c1))) (hq:C.m q=some (.var ty1 (.k (slV n1 u0)::vs.map .k))) (hv:vs.length+1=size) (hvs:∀u∈vs,u.oneCell'=true) (hlen:∀k,k<n→(el k).length=size) (b1:n+1≤maxLen) (b2:(n+1)*bytes≤140737488355328)
    (hX:C.m X=some (.say (sb (slV n1 u0)) (R (slV n1 u0)))) (hfree2:C.m d2=none) (h2d:Nat.beq d2 d=false) (h2x:Nat.beq d2 x=false) (hXd:Nat.beq X d=false) (hXx:Nat.beq X x=false) (hst:∀u,Steady (sb (slV n1 u)) (R (slV n1 u))):
    StepsC P E ops o C (accZ x d d2 n size e el n1 R vs):=by
  refine StepsC.also X d2 (StepsC.appendAcc (slV n1 u0::vs) hp hg hop hd hdN hdb hxb hxd hs hx hfree hy hq (by simpa using hv) (fun u hu=>by
    rcases List.mem_cons.1 hu with rfl|hu
    · rfl
    · exact hvs u hu) hlen b1 b2) rfl rfl rfl (fun i=>?_) hX hfree2 (fun i=>?_) fun i=>?_
  · simp[accF,mget,h2d,h2x]
  · simp[accF,mget,hXd,hXx]
  · refine⟨(.agg #[i.1,u0.1],i.2),_,_,rfl,rfl,fun k hk=>hk,fun w hw=>hw,hst _⟩
theorem G.fact {c:Code} {t:Nat→TV} {m:Mem} (X:Nat) {S:Nat→Prop} {R:World→Prop} {φ:Prop} (hX:m X=some (.say S R)) (h:∀w,R w→φ) (k:φ→G P E K c ⟨t,m⟩):G P E K c ⟨t,m⟩:=G.sem fun ρ a w hs=>⟨ρ,_,hs,k (h w (hs.mem.ok X _ hX).1)⟩
theorem enterIn {f:FuncId} {fn:Func} {c:Code} {args:Array Value} {w:World} (R:Ending→World→Prop) (hf:P.funcs[f]?=some fn) (hb:fn.body=some c) (N:Nat) (hN:fn.ntmps=N) (avs:List AV) (l:List Inp)
    (hargs:args=(avs.map (AV.conc (inpsV l))).toArray) (hl:Nat.ble avs.length N=true) (hr:allRd w l) (ha:allInps l avs)
    (h:G P ⟨w,[],N,none,[]⟩ (retK P ⟨w,[],N,none,[]⟩ fn R) c ⟨argsT avs,lkM (inpsM l)⟩):Calls P f args w R:=by
  subst hN
  exact enter rfl (E:=⟨w,[],fn.ntmps,none,[]⟩) hf hb (inpsV l) (Sat.init hr ha hargs (Nat.le_of_ble_eq_true hl)) h
end
end Go.Sx
set_option maxRecDepth 1000000
namespace Go.Proofs.Ytafhnfcahhlanaa
open Go.Sx
def z3:List Value:=[.int .i64 0]
def z4:List Value:=[.bool false]
def z5:List Value:=[.int .u8 0]
def z22:List Value:=[.slice none 0 0]
def z100:List Value:=(List.replicate 2 (z22)).flatten
def d3:TyD:=⟨.int .i64,1,[.int .i64 0]⟩
def d4:TyD:=⟨.bool,1,[.bool false]⟩
def d5:TyD:=⟨.int .u8,1,[.int .u8 0]⟩
def d9:TyD:=⟨.str,1,[.string ⟨#[]⟩]⟩
def d12:TyD:=⟨.int .u64,1,[.int .u64 0]⟩
def d22:TyD:=⟨.slice 3,1,[.slice none 0 0]⟩
def d23:TyD:=⟨.slice 22,1,[.slice none 0 0]⟩
def d25:TyD:=⟨.struct [(0,22),(1,23),(2,22)],3,[.slice none 0 0,.slice none 0 0,.slice none 0 0]⟩
def d29:TyD:=⟨.struct [(0,22),(1,3)],2,[.slice none 0 0,.int .i64 0]⟩
def d31:TyD:=⟨.struct [(0,3),(1,29),(3,29),(5,22)],6,[.int .i64 0,.slice none 0 0,.int .i64 0,.slice none 0 0,.int .i64 0,.slice none 0 0]⟩
def d32:TyD:=⟨.int .i64,1,[.int .i64 0]⟩
def d44:TyD:=⟨.other,1,[.nilFunc]⟩
def d56:TyD:=⟨.other,1,[.nilFunc]⟩
def d57:TyD:=⟨.other,1,[.nilFunc]⟩
def d59:TyD:=⟨.slice 95,1,[.slice none 0 0]⟩
def d63:TyD:=⟨.other,1,[.nilFunc]⟩
def d64:TyD:=⟨.other,1,[.nilFunc]⟩
def d67:TyD:=⟨.other,1,[.nilFunc]⟩
def d68:TyD:=⟨.slice 29,1,[.slice none 0 0]⟩
def d70:TyD:=⟨.slice 106,1,[.slice none 0 0]⟩
def d79:TyD:=⟨.other,1,[.nilFunc]⟩
def d86:TyD:=⟨.int .u64,1,[.int .u64 0]⟩
def d88:TyD:=⟨.struct [(0,86),(1,86)],2,[.int .u64 0,.int .u64 0]⟩
def d95:TyD:=⟨.struct [(0,22),(1,3)],2,[.slice none 0 0,.int .i64 0]⟩
def d100:TyD:=⟨.array 2 22,2,z100⟩
def d106:TyD:=⟨.struct [(0,22),(1,3)],2,[.slice none 0 0,.int .i64 0]⟩
def d111:TyD:=⟨.int .u64,1,[.int .u64 0]⟩
def d115:TyD:=⟨.slice 86,1,[.slice none 0 0]⟩
def d118:TyD:=⟨.other,1,[.nilFunc]⟩
def d122:TyD:=⟨.int .u32,1,[.int .u32 0]⟩
def TT:Tab
  |3=>some d3
  |4=>some d4
  |5=>some d5
  |9=>some d9
  |12=>some d12
  |22=>some d22
  |23=>some d23
  |25=>some d25
  |29=>some d29
  |31=>some d31
  |32=>some d32
  |44=>some d44
  |56=>some d56
  |57=>some d57
  |59=>some d59
  |63=>some d63
  |64=>some d64
  |67=>some d67
  |68=>some d68
  |70=>some d70
  |79=>some d79
  |86=>some d86
  |88=>some d88
  |95=>some d95
  |100=>some d100
  |106=>some d106
  |111=>some d111
  |115=>some d115
  |118=>some d118
  |122=>some d122
  |_=>none
theorem ty3:TyOK Try.prog 3 d3:=⟨fun w=>Try.sizeOf3 w,fun w=>Try.isAgg3 w,fun w=>Try.zeroValue3 w,rfl,(fun h=>by first|rfl|cases h),rfl,fun w=>Try.runUnderlying3 w⟩
theorem ty4:TyOK Try.prog 4 d4:=⟨fun w=>Try.sizeOf4 w,fun w=>Try.isAgg4 w,fun w=>Try.zeroValue4 w,rfl,(fun h=>by first|rfl|cases h),rfl,fun w=>Try.runUnderlying4 w⟩
theorem ty5:TyOK Try.prog 5 d5:=⟨fun w=>Try.sizeOf5 w,fun w=>Try.isAgg5 w,fun w=>Try.zeroValue5 w,rfl,(fun h=>by first|rfl|cases h),rfl,fun w=>Try.runUnderlying5 w⟩
theorem ty9:TyOK Try.prog 9 d9:=⟨fun w=>Try.sizeOf9 w,fun w=>Try.isAgg9 w,fun w=>Try.zeroValue9 w,rfl,(fun h=>by first|rfl|cases h),rfl,fun w=>Try.runUnderlying9 w⟩
theorem ty12:TyOK Try.prog 12 d12:=⟨fun w=>Try.sizeOf12 w,fun w=>Try.isAgg12 w,fun w=>Try.zeroValue12 w,rfl,(fun h=>by first|rfl|cases h),rfl,fun w=>Try.runUnderlying12 w⟩
theorem ty22:TyOK Try.prog 22 d22:=⟨fun w=>Try.sizeOf22 w,fun w=>Try.isAgg22 w,fun w=>Try.zeroValue22 w,rfl,(fun h=>by first|rfl|cases h),rfl,fun w=>Try.runUnderlying22 w⟩
theorem ty23:TyOK Try.prog 23 d23:=⟨fun w=>Try.sizeOf23 w,fun w=>Try.isAgg23 w,fun w=>Try.zeroValue23 w,rfl,(fun h=>by first|rfl|cases h),rfl,fun w=>Try.runUnderlying23 w⟩
theorem ty25:TyOK Try.prog 25 d25:=⟨fun w=>Try.sizeOf25 w,fun w=>Try.isAgg25 w,fun w=>Try.zeroValue25 w,rfl,(fun h=>by first|rfl|cases h),rfl,⟨_,fun w=>Try.runUnderlying25 w,rfl⟩⟩
theorem ty29:TyOK Try.prog 29 d29:=⟨fun w=>Try.sizeOf29 w,fun w=>Try.isAgg29 w,fun w=>Try.zeroValue29 w,rfl,(fun h=>by first|rfl|cases h),rfl,⟨_,fun w=>Try.runUnderlying29 w,rfl⟩⟩
theorem ty31:TyOK Try.prog 31 d31:=⟨fun w=>Try.sizeOf31 w,fun w=>Try.isAgg31 w,fun w=>Try.zeroValue31 w,rfl,(fun h=>by first|rfl|cases h),rfl,⟨_,fun w=>Try.runUnderlying31 w,rfl⟩⟩
theorem ty32:TyOK Try.prog 32 d32:=⟨fun w=>Try.sizeOf32 w,fun w=>Try.isAgg32 w,fun w=>Try.zeroValue32 w,rfl,(fun h=>by first|rfl|cases h),rfl,fun w=>Try.runUnderlying32 w⟩
theorem ty44:TyOK Try.prog 44 d44:=⟨fun w=>Try.sizeOf44 w,fun w=>Try.isAgg44 w,fun w=>Try.zeroValue44 w,rfl,(fun h=>by first|rfl|cases h),rfl,trivial⟩
theorem ty56:TyOK Try.prog 56 d56:=⟨fun w=>Try.sizeOf56 w,fun w=>Try.isAgg56 w,fun w=>Try.zeroValue56 w,rfl,(fun h=>by first|rfl|cases h),rfl,trivial⟩
theorem ty57:TyOK Try.prog 57 d57:=⟨fun w=>Try.sizeOf57 w,fun w=>Try.isAgg57 w,fun w=>Try.zeroValue57 w,rfl,(fun h=>by first|rfl|cases h),rfl,trivial⟩
theorem ty59:TyOK Try.prog 59 d59:=⟨fun w=>Try.sizeOf59 w,fun w=>Try.isAgg59 w,fun w=>Try.zeroValue59 w,rfl,(fun h=>by first|rfl|cases h),rfl,fun w=>Try.runUnderlying59 w⟩
theorem ty63:TyOK Try.prog 63 d63:=⟨fun w=>Try.sizeOf63 w,fun w=>Try.isAgg63 w,fun w=>Try.zeroValue63 w,rfl,(fun h=>by first|rfl|cases h),rfl,trivial⟩
theorem ty64:TyOK Try.prog 64 d64:=⟨fun w=>Try.sizeOf64 w,fun w=>Try.isAgg64 w,fun w=>Try.zeroValue64 w,rfl,(fun h=>by first|rfl|cases h),rfl,trivial⟩
theorem ty67:TyOK Try.prog 67 d67:=⟨fun w=>Try.sizeOf67 w,fun w=>Try.isAgg67 w,fun w=>Try.zeroValue67 w,rfl,(fun h=>by first|rfl|cases h),rfl,trivial⟩
theorem ty68:TyOK Try.prog 68 d68:=⟨fun w=>Try.sizeOf68 w,fun w=>Try.isAgg68 w,fun w=>Try.zeroValue68 w,rfl,(fun h=>by first|rfl|cases h),rfl,fun w=>Try.runUnderlying68 w⟩
theorem ty70:TyOK Try.prog 70 d70:=⟨fun w=>Try.sizeOf70 w,fun w=>Try.isAgg70 w,fun w=>Try.zeroValue70 w,rfl,(fun h=>by first|rfl|cases h),rfl,fun w=>Try.runUnderlying70 w⟩
theorem ty79:TyOK Try.prog 79 d79:=⟨fun w=>Try.sizeOf79 w,fun w=>Try.isAgg79 w,fun w=>Try.zeroValue79 w,rfl,(fun h=>by first|rfl|cases h),rfl,trivial⟩
theorem ty86:TyOK Try.prog 86 d86:=⟨fun w=>Try.sizeOf86 w,fun w=>Try.isAgg86 w,fun w=>Try.zeroValue86 w,rfl,(fun h=>by first|rfl|cases h),rfl,fun w=>Try.runUnderlying86 w⟩
theorem ty88:TyOK Try.prog 88 d88:=⟨fun w=>Try.sizeOf88 w,fun w=>Try.isAgg88 w,fun w=>Try.zeroValue88 w,rfl,(fun h=>by first|rfl|cases h),rfl,⟨_,fun w=>Try.runUnderlying88 w,rfl⟩⟩
theorem ty95:TyOK Try.prog 95 d95:=⟨fun w=>Try.sizeOf95 w,fun w=>Try.isAgg95 w,fun w=>Try.zeroValue95 w,rfl,(fun h=>by first|rfl|cases h),rfl,⟨_,fun w=>Try.runUnderlying95 w,rfl⟩⟩
theorem ty100:TyOK Try.prog 100 d100:=⟨fun w=>Try.sizeOf100 w,fun w=>Try.isAgg100 w,fun w=>Try.zeroValue100 w,rfl,(fun h=>by first|rfl|cases h),rfl,fun w=>Try.runUnderlying100 w⟩
theorem ty106:TyOK Try.prog 106 d106:=⟨fun w=>Try.sizeOf106 w,fun w=>Try.isAgg106 w,fun w=>Try.zeroValue106 w,rfl,(fun h=>by first|rfl|cases h),rfl,⟨_,fun w=>Try.runUnderlying106 w,rfl⟩⟩
theorem ty111:TyOK Try.prog 111 d111:=⟨fun w=>Try.sizeOf111 w,fun w=>Try.isAgg111 w,fun w=>Try.zeroValue111 w,rfl,(fun h=>by first|rfl|cases h),rfl,fun w=>Try.runUnderlying111 w⟩
theorem ty115:TyOK Try.prog 115 d115:=⟨fun w=>Try.sizeOf115 w,fun w=>Try.isAgg115 w,fun w=>Try.zeroValue115 w,rfl,(fun h=>by first|rfl|cases h),rfl,fun w=>Try.runUnderlying115 w⟩
theorem ty118:TyOK Try.prog 118 d118:=⟨fun w=>Try.sizeOf118 w,fun w=>Try.isAgg118 w,fun w=>Try.zeroValue118 w,rfl,(fun h=>by first|rfl|cases h),rfl,trivial⟩
theorem ty122:TyOK Try.prog 122 d122:=⟨fun w=>Try.sizeOf122 w,fun w=>Try.isAgg122 w,fun w=>Try.zeroValue122 w,rfl,(fun h=>by first|rfl|cases h),rfl,fun w=>Try.runUnderlying122 w⟩
theorem tfine:Tab.fine Try.prog TT:=by
  refine⟨fun t d h=>?_,fun t d n e h hk=>?_⟩
  · unfold TT at h
    split at h
    · injection h with h;subst h;exact ty3
    · injection h with h;subst h;exact ty4
    · injection h with h;subst h;exact ty5
    · injection h with h;subst h;exact ty9
    · injection h with h;subst h;exact ty12
    · injection h with h;subst h;exact ty22
    · injection h with h;subst h;exact ty23
    · injection h with h;subst h;exact ty25
    · injection h with h;subst h;exact ty29
    · injection h with h;subst h;exact ty31
    · injection h with h;subst h;exact ty32
    · injection h with h;subst h;exact ty44
    · injection h with h;subst h;exact ty56
    · injection h with h;subst h;exact ty57
    · injection h with h;subst h;exact ty59
    · injection h with h;subst h;exact ty63
    · injection h with h;subst h;exact ty64
    · injection h with h;subst h;exact ty67
    · injection h with h;subst h;exact ty68
    · injection h with h;subst h;exact ty70
    · injection h with h;subst h;exact ty79
    · injection h with h;subst h;exact ty86
    · injection h with h;subst h;exact ty88
    · injection h with h;subst h;exact ty95
    · injection h with h;subst h;exact ty100
    · injection h with h;subst h;exact ty106
    · injection h with h;subst h;exact ty111
    · injection h with h;subst h;exact ty115
    · injection h with h;subst h;exact ty118
    · injection h with h;subst h;exact ty122
    · cases h
  · unfold TT at h
    split at h
    · injection h with h;subst h;cases hk
    · injection h with h;subst h;cases hk
    · injection h with h;subst h;cases hk
    · injection h with h;subst h;cases hk
    · injection h with h;subst h;cases hk
    · injection h with h;subst h;cases hk
    · injection h with h;subst h;cases hk
    · injection h with h;subst h;cases hk
    · injection h with h;subst h;cases hk
    · injection h with h;subst h;cases hk
    · injection h with h;subst h;cases hk
    · injection h with h;subst h;cases hk
    · injection h with h;subst h;cases hk
    · injection h with h;subst h;cases hk
    · injection h with h;subst h;cases hk
    · injection h with h;subst h;cases hk
    · injection h with h;subst h;cases hk
    · injection h with h;subst h;cases hk
    · injection h with h;subst h;cases hk
    · injection h with h;subst h;cases hk
    · injection h with h;subst h;cases hk
    · injection h with h;subst h;cases hk
    · injection h with h;subst h;cases hk
    · injection h with h;subst h;cases hk
    · injection h with h;subst h;injection hk with h1 h2;subst h1;subst h2;exact⟨d22,rfl,rfl⟩
    · injection h with h;subst h;cases hk
    · injection h with h;subst h;cases hk
    · injection h with h;subst h;cases hk
    · injection h with h;subst h;cases hk
    · injection h with h;subst h;cases hk
    · cases h
end Go.Proofs.Ytafhnfcahhlanaa
namespace Go.Proofs.Ytafhnfcahhlanaa
open Go.Sx Go.RowKit
theorem hmix:Try.prog.follows .mixedOrders=true:=by decide
abbrev I (n:Int):Value:=.int .i64 n
def upB (rule q r b:Int):Bool:=if rule=1 then false else if rule=2 then decide (r>0) else if rule=3 then decide (2*r≥b) else decide (2*r>b)||((2*r==b)&&(q.tmod 2 != 0))
def rndR (a b rule:Int):Int:=if upB rule (a / b) (a % b) b then a % b-b else a % b
abbrev M:Int:=128849018880000
end Go.Proofs.Ytafhnfcahhlanaa
namespace Go.Proofs.Ytafhnfcahhlanaa
open Go.Sx Go.RowKit
def firstI (p:Nat→Bool):Nat→Nat→Int
  |_,0=>-1
  |k,m+1=>if p k=true then (k:Int) else firstI p (k+1) m
def elI (l:List Int) (i:Nat):List Value:=[I (l.getD i 0)]
theorem indexFunc_any (f:FuncId) (q:Int→Bool) (hcf:∀args w,(callFunc f args).run Try.prog w=.ok (.enter f args) w)
    (hf:∀v w,Calls Try.prog f #[I v] w fun e w'=>e=.returned (.bool (q v))∧Below w.heap.size w w') (A:Option Addr) (c:Nat) (l:List Int) (w:World) (hl:RdRow w A l.length 1 (elI l)) (hm:l.length≤4611686018427387904):
    Calls Try.prog 65 #[.slice A l.length c,.func (.func f) #[] #[]] w fun e w'=>e=.returned (I (firstI (fun k=>q (l.getD k 0)) 0 l.length))∧Below w.heap.size w w':=by
  refine enterPlain tfine Try.func65 rfl 19 Try.ntmps65 [.c (.inp 1000 A l.length c),.c (.k (.func (.func f) #[] #[]))] [⟨1000,A,1,l.length,elI l⟩] rfl rfl ⟨hl,trivial⟩ ⟨.inl ⟨rfl,rfl,rfl⟩,trivial,trivial⟩ ?_
  refine G.seqR tfine rfl trivial ?_
  refine G.seq (G.seqR tfine rfl trivial ?_)
  refine G.block (G.loop (fun k:Nat=>St.of [(0,.v (.c (.inp 1000 A l.length c))),(1,.v (.c (.k (.func (.func f) #[] #[])))),(7,.v (.c (.k (I l.length)))),(8,.v (.c (.k (I k))))] [(1000,.ro 1 l.length (elI l))])
    (fun k=>k≤l.length∧firstI (fun k=>q (l.getD k 0)) 0 l.length=firstI (fun k=>q (l.getD k 0)) k (l.length-k)) (fun k=>l.length-k) 0 ⟨by omega,by simp⟩ (St.le_of rfl ⟨⟨_,rfl,Blk.le_refl _⟩,trivial⟩ ⟨rfl,rfl,rfl,rfl,trivial⟩) ?_)
  rintro k ⟨hk,hfi⟩
  refine G.seqR tfine rfl trivial ?_
  refine G.seq (G.cond rfl (fun h=>?_) (fun h=>?_))
  rotate_left
  · have h:=of_decide_eq_false h
    have:k=l.length:=by omega
    subst this
    refine G.exit ?_
    refine G.seqR tfine rfl trivial ?_
    refine G.ret (endK.ret rfl ?_)
    rw[hfi]
    simp[firstI]
  have h:=of_decide_eq_true h
  have hlt:k<l.length:=by omega
  refine G.skip ?_
  refine G.seq (G.block ?_)
  refine G.seqR tfine rfl trivial ?_
  refine G.seqC tfine rfl ⟨by simpa using hlt,by omega,by omega,trivial⟩ ?_
  rw[Int.toNat_natCast]
  refine GO.callPlain rfl rfl rfl rfl hcf (fun ρ w hm _=>hf _ w) (GO.nil ?_)
  have hs:l.length-k=(l.length-(k+1))+1:=by omega
  rw[hs,firstI]at hfi
  refine G.cond rfl (fun h2=>?_) (fun h2=>?_)
  · refine G.seqR tfine rfl trivial ?_
    refine G.ret (endK.ret rfl ?_)
    rw[hfi,if_pos h2]
  · refine G.skip ?_
    refine G.reg tfine rfl trivial ?_
    rw[IntWalk.i64_in _ (by omega)]
    rw[if_neg (by simpa using h2)]at hfi
    exact⟨k+1,⟨by omega,hfi⟩,(by show l.length-(k+1)<l.length-k;omega),St.le_of rfl ⟨⟨_,rfl,Blk.le_refl _⟩,trivial⟩ ⟨rfl,rfl,rfl,by simp[up,I],trivial⟩⟩
theorem containsFunc_any (f:FuncId) (q:Int→Bool) (hcf:∀args w,(callFunc f args).run Try.prog w=.ok (.enter f args) w)
    (hf:∀v w,Calls Try.prog f #[I v] w fun e w'=>e=.returned (.bool (q v))∧Below w.heap.size w w') (A:Option Addr) (c:Nat) (l:List Int) (w:World) (hl:RdRow w A l.length 1 (elI l)) (hm:l.length≤4611686018427387904):
    Calls Try.prog 21 #[.slice A l.length c,.func (.func f) #[] #[]] w fun e w'=>e=.returned (.bool (decide (firstI (fun k=>q (l.getD k 0)) 0 l.length≥0)))∧Below w.heap.size w w':=by
  refine enterPlain tfine Try.func21 rfl 9 Try.ntmps21 [.c (.inp 1000 A l.length c),.c (.k (.func (.func f) #[] #[]))] [⟨1000,A,1,l.length,elI l⟩] rfl rfl ⟨hl,trivial⟩ ⟨.inl ⟨rfl,rfl,rfl⟩,trivial,trivial⟩ ?_
  refine G.seqR tfine rfl trivial ?_
  refine G.seqC tfine rfl trivial ?_
  refine GO.callPlain rfl rfl rfl rfl (fun args w=>Try.call65 args w) (fun ρ w hs hok=>indexFunc_any f q hcf hf A c l w (hs.row rfl (hok _ List.mem_cons_self)) hm) ?_
  refine GO.fin tfine rfl trivial ?_
  exact G.ret (endK.ret rfl rfl)
theorem firstI_any (p:Nat→Bool) (k m:Nat):decide (firstI p k m≥0)=(List.range' k m).any p:=by
  induction m generalizing k with
  |zero=>rfl
  |succ m ih=>
    rw[firstI,List.range'_succ,List.any_cons,←ih]
    cases p k with
    |true=>simp
    |false=>simp
end Go.Proofs.Ytafhnfcahhlanaa
namespace Go.Proofs.Ytafhnfcahhlanaa
open Go.Sx Go.RowKit
def SR (l:List Int) (b rule:Int):Int:=(l.map fun n=>rndR n b rule).sum
end Go.Proofs.Ytafhnfcahhlanaa
namespace Go.Proofs.Ytafhnfcahhlanaa
open Go.Sx Go.RowKit
abbrev w0:ByteArray:=⟨#[]⟩
end Go.Proofs.Ytafhnfcahhlanaa
namespace Go.Proofs.Ytafhnfcahhlanaa
open Go.Sx Go.RowKit
abbrev U (n:Int):Value:=.int .u64 n
theorem andLow (n:Nat) (h:n<18446744073709551616):bitsOp .and .u64 (n:Int) 4294967295=((n % 4294967296:Nat):Int):=by
  show IntKind.u64.wrap (((BitVec.ofInt 64 (n:Int) &&& BitVec.ofInt 64 4294967295).toNat:Nat):Int)=_
  rw[BitVec.ofInt_natCast,show BitVec.ofInt 64 4294967295=BitVec.ofNat 64 4294967295 from rfl,BitVec.toNat_and,BitVec.toNat_ofNat,BitVec.toNat_ofNat,Nat.mod_eq_of_lt (show n<2 ^ 64 by omega),show 4294967295 % 2 ^ 64=2 ^ 32-1 by rfl,Nat.and_two_pow_sub_one_eq_mod]
  rw[IntKind.wrap_u64];omega
theorem shr32 (n:Nat):((n:Int).fdiv (2 ^ (min (32:Int).toNat IntKind.u64.bits)))=((n / 4294967296:Nat):Int):=by
  have:(2:Int) ^ (min (32:Int).toNat IntKind.u64.bits)=4294967296:=rfl
  rw[this,Int.fdiv_eq_ediv_of_nonneg _ (by decide)]
  omega
theorem wrapU (n:Nat) (h:n<18446744073709551616):IntKind.u64.wrap (n:Int)=(n:Int):=by rw[IntKind.wrap_u64];omega
theorem mulU (a b:Nat) (h:a*b<18446744073709551616):IntKind.u64.wrap ((a:Int)*(b:Int))=((a*b:Nat):Int):=by rw[←Int.natCast_mul,wrapU _ h]
theorem mulW (a b:Nat):IntKind.u64.wrap ((a:Int)*(b:Int))=((a*b % 18446744073709551616:Nat):Int):=by rw[←Int.natCast_mul,IntKind.wrap_u64];omega
theorem addU (a b:Nat) (h:a+b<18446744073709551616):IntKind.u64.wrap ((a:Int)+(b:Int))=((a+b:Nat):Int):=by rw[←Int.natCast_add,wrapU _ h]
theorem mul64_any (x y:Nat) (hx:x<18446744073709551616) (hy:y<18446744073709551616) (w:World):
    Calls Try.prog 92 #[U x,U y] w fun e w'=>e=.returned (.tuple #[U (x*y / 18446744073709551616:Nat),U (x*y % 18446744073709551616:Nat)])∧Below w.heap.size w w':=by
  obtain⟨h1,h2,h3,h4⟩:=Go.Lib.mul64_hi x y hx hy
  have hbx:x % 4294967296≤4294967295:=by omega
  have hby:y % 4294967296≤4294967295:=by omega
  have ha:=Go.Lib.half_mul_le (a:=x / 4294967296) (b:=y / 4294967296) (by omega) (by omega)
  have hb:=Go.Lib.half_mul_le (a:=x / 4294967296) (b:=y % 4294967296) (by omega) (by omega)
  have hc:=Go.Lib.half_mul_le (a:=x % 4294967296) (b:=y / 4294967296) (by omega) (by omega)
  refine enterPlain tfine Try.func92 rfl 51 Try.ntmps92 [.c (.k (U x)),.c (.k (U y))] [] rfl rfl trivial ⟨trivial,trivial,trivial⟩ ?_
  refine G.seqR tfine rfl trivial ?_
  refine G.seqR tfine rfl trivial ?_
  rw[andLow x hx]
  refine G.seqR tfine rfl ⟨by decide,trivial⟩ ?_
  rw[shr32]
  refine G.seqR tfine rfl trivial ?_
  rw[andLow y hy]
  refine G.seqR tfine rfl ⟨by decide,trivial⟩ ?_
  rw[shr32]
  refine G.seqR tfine rfl trivial ?_
  rw[mulU _ _ h1]
  refine G.seqR tfine rfl ⟨by decide,trivial⟩ ?_
  rw[mulU _ _ (by omega),shr32,addU _ _ h2]
  refine G.seqR tfine rfl trivial ?_
  rw[andLow _ h2]
  refine G.seqR tfine rfl ⟨by decide,trivial⟩ ?_
  rw[shr32]
  refine G.seqR tfine rfl trivial ?_
  rw[mulU _ _ (by omega),addU _ _ h3]
  refine G.seqR tfine rfl ⟨by decide,trivial⟩ ?_
  rw[mulU _ _ (by omega),shr32,addU _ _ (by omega),addU _ _ (by rw[h4];exact Nat.div_lt_of_lt_mul (Nat.mul_lt_mul'' hx hy)),h4]
  refine G.seqR tfine rfl trivial ?_
  rw[mulW]
  exact G.ret (endK.ret rfl rfl)
end Go.Proofs.Ytafhnfcahhlanaa
namespace Go.Proofs.Ytafhnfcahhlanaa
open Go.Sx Go.RowKit
theorem info3:(Try.prog.info? 3).map (fun i=>(i.zero,i.size,i.bytes))=some (some (.int .i64 0),1,8):=by kernel_rfl
theorem apT35:ApT Try.prog 22 3 1 8 (.int .i64 0):=⟨Try.underlying22,info3,rfl,by decide⟩
end Go.Proofs.Ytafhnfcahhlanaa
set_option maxRecDepth 8000
set_option maxHeartbeats 1000000
namespace Go.Proofs.Ytafhnfcahhlanaa
open Go.Sx Go.RowKit
abbrev W (n:Int):Int:=IntKind.i64.wrap n
def dotN (a b:Nat→Int):Nat→Int
  |0=>0
  |k+1=>W (dotN a b k+W (a k*b k))
def dotL (a b:List Int):Int:=dotN (fun k=>a.getD k 0) (fun k=>b.getD k 0) a.length
theorem dot_any (A B:Option Addr) (c d:Nat) (a b:List Int) (w:World) (hA:RdRow w A a.length 1 (elI a)) (hB:RdRow w B b.length 1 (elI b)) (hab:a.length≤b.length) (hn:b.length<4611686018427387904):
    Calls Try.prog 39 #[.slice A a.length c,.slice B b.length d] w fun e w'=>e=.returned (I (dotL a b))∧Below w.heap.size w w':=by
  refine enterPlain tfine Try.func39 rfl 25 Try.ntmps39 [.c (.inp 1000 A a.length c),.c (.inp 1001 B b.length d)] [⟨1000,A,1,a.length,elI a⟩,⟨1001,B,1,b.length,elI b⟩] rfl rfl ⟨hA,hB,trivial⟩ ⟨.inl ⟨rfl,rfl,rfl⟩,.inr ⟨nx rfl,.inl ⟨rfl,rfl,rfl⟩⟩,trivial⟩ ?_
  refine G.seqR tfine rfl trivial ?_
  refine G.seqR tfine rfl trivial ?_
  refine G.seq ?_
  refine G.seqR tfine rfl trivial ?_
  refine G.block (G.loop (fun k:Nat=>St.of [(1,.v (.c (.inp 1001 B b.length d))),(5,.v (.c (.k (I (dotN (fun k=>a.getD k 0) (fun k=>b.getD k 0) k))))),(8,.v (.c (.inp 1000 A a.length c))),(9,.v (.c (.k (I a.length)))),(10,.v (.c (.k (I k))))] [(1000,.ro 1 a.length (elI a)),(1001,.ro 1 b.length (elI b))])
    (fun k=>k≤a.length) (fun k=>a.length-k) 0 (by omega) (St.le_of rfl ⟨⟨_,rfl,Blk.le_refl _⟩,⟨_,rfl,Blk.le_refl _⟩,trivial⟩ ⟨rfl,rfl,rfl,rfl,rfl,trivial⟩) ?_)
  rintro k hk
  refine G.seqR tfine rfl trivial ?_
  refine G.seq ?_
  refine G.cond (b:=decide ((k:Int)<(a.length:Int))) rfl (fun h2=>?_) (fun h2=>?_)
  rotate_left
  · have h2:=of_decide_eq_false h2
    have:k=a.length:=by omega
    subst this
    refine G.exit ?_
    refine G.seqR tfine rfl trivial ?_
    exact G.ret (endK.ret rfl rfl)
  have h2:=of_decide_eq_true h2
  have hlt:k<a.length:=by omega
  refine G.skip ?_
  refine G.seq ?_
  refine G.block ?_
  refine G.seqR tfine rfl ⟨by omega,by omega,by omega,trivial⟩ ?_
  rw[Int.toNat_natCast]
  refine G.reg tfine rfl ⟨by omega,by omega,by omega,trivial⟩ ?_
  rw[Int.toNat_natCast]
  refine G.reg tfine rfl trivial ?_
  rw[IntWalk.i64_in ((k:Int)+1) (by omega)]
  exact⟨k+1,by omega,(by show a.length-(k+1)<a.length-k;omega),St.le_of rfl ⟨⟨_,rfl,Blk.le_refl _⟩,⟨_,rfl,Blk.le_refl _⟩,trivial⟩ ⟨rfl,rfl,rfl,rfl,by simp[up,I],trivial⟩⟩
def toU (a:Int):Nat:=(a % 18446744073709551616).toNat
theorem toU_lt (a:Int):toU a<18446744073709551616:=by unfold toU;omega
theorem toU_wrap (a:Int):IntKind.u64.wrap a=(toU a:Int):=by rw[IntKind.wrap_u64];unfold toU;omega
def sgnU (p q:Nat):Int:=if p<q then -1 else if q<p then 1 else 0
theorem isNaNu_any (n:Nat) (w:World):Calls Try.prog 105 #[.int .u64 n] w fun e w'=>e=.returned (.bool false)∧Below w.heap.size w w':=by
  refine enterPlain tfine Try.func105 rfl 6 Try.ntmps105 [.c (.k (.int .u64 n))] [] rfl rfl trivial ⟨trivial,trivial⟩ ?_
  refine G.seqR tfine rfl trivial ?_
  refine G.seqR tfine rfl trivial ?_
  exact G.ret (endK.ret rfl (by simp))
theorem cmpu_any (p q:Nat) (w:World):Calls Try.prog 100 #[.int .u64 p,.int .u64 q] w fun e w'=>e=.returned (I (sgnU p q))∧Below w.heap.size w w':=by
  refine enterPlain tfine Try.func100 rfl 20 Try.ntmps100 [.c (.k (.int .u64 p)),.c (.k (.int .u64 q))] [] rfl rfl trivial ⟨trivial,trivial,trivial⟩ ?_
  refine G.seqR tfine rfl trivial ?_
  refine G.seqC tfine rfl trivial ?_
  refine GO.callPlain rfl rfl rfl rfl (fun args w=>Try.call105 args w) (fun ρ w _ _=>isNaNu_any p w) ?_
  refine GO.fin tfine rfl trivial ?_
  refine G.seqC tfine rfl trivial ?_
  refine GO.callPlain rfl rfl rfl rfl (fun args w=>Try.call105 args w) (fun ρ w _ _=>isNaNu_any q w) ?_
  refine GO.fin tfine rfl trivial ?_
  refine G.seq (G.seqR tfine rfl trivial ?_)
  refine G.cond_false rfl ?_
  refine G.skip ?_
  refine G.seq (G.seqR tfine rfl trivial ?_)
  refine G.cond_false rfl ?_
  refine G.skip ?_
  refine G.seq (G.seqR tfine rfl trivial ?_)
  refine G.cond (b:=decide ((p:Int)<(q:Int))) rfl (fun h=>?_) (fun h=>?_)
  · have h:=of_decide_eq_true h
    refine G.seqR tfine rfl trivial ?_
    exact G.ret (endK.ret rfl (by rw[sgnU,if_pos (by omega)]))
  have h:=of_decide_eq_false h
  refine G.skip ?_
  refine G.seq (G.seqR tfine rfl trivial ?_)
  refine G.cond (b:=decide ((p:Int)>(q:Int))) rfl (fun h2=>?_) (fun h2=>?_)
  · have h2:=of_decide_eq_true h2
    refine G.seqR tfine rfl trivial ?_
    exact G.ret (endK.ret rfl (by rw[sgnU,if_neg (by omega),if_pos (by omega)]))
  have h2:=of_decide_eq_false h2
  refine G.skip ?_
  refine G.seqR tfine rfl trivial ?_
  exact G.ret (endK.ret rfl (by rw[sgnU,if_neg (by omega),if_neg (by omega)]))
def elU (l:List Nat) (i:Nat):List Value:=[.int .u64 (l.getD i 0)]
def lexU (a b:List Nat):Nat→Nat→Int
  |_,0=>0
  |k,n+1=>if sgnU (a.getD k 0) (b.getD k 0)≠0 then sgnU (a.getD k 0) (b.getD k 0) else lexU a b (k+1) n
theorem compareU_any (A B:Option Addr) (c d:Nat) (a b:List Nat) (w:World) (hA:RdRow w A 2 1 (elU a)) (hB:RdRow w B 2 1 (elU b)):
    Calls Try.prog 93 #[.slice A 2 c,.slice B 2 d] w fun e w'=>e=.returned (I (lexU a b 0 2))∧Below w.heap.size w w':=by
  refine enterPlain tfine Try.func93 rfl 36 Try.ntmps93 [.c (.inp 1000 A 2 c),.c (.inp 1001 B 2 d)] [⟨1000,A,1,2,elU a⟩,⟨1001,B,1,2,elU b⟩] rfl rfl ⟨hA,hB,trivial⟩ ⟨.inl ⟨rfl,rfl,rfl⟩,.inr ⟨nx rfl,.inl ⟨rfl,rfl,rfl⟩⟩,trivial⟩ ?_
  refine G.seqR tfine rfl trivial ?_
  refine G.seq ?_
  refine G.seqR tfine rfl trivial ?_
  refine G.block (G.loop (fun k:Nat=>St.of [(0,.v (.c (.inp 1000 A 2 c))),(1,.v (.c (.inp 1001 B 2 d))),(9,.v (.c (.inp 1000 A 2 c))),(10,.v (.c (.k (I 2)))),(11,.v (.c (.k (I k))))] [(1000,.ro 1 2 (elU a)),(1001,.ro 1 2 (elU b))])
    (fun k=>k≤2∧lexU a b 0 2=lexU a b k (2-k)) (fun k=>2-k) 0 ⟨by omega,rfl⟩ (St.le_of rfl ⟨⟨_,rfl,Blk.le_refl _⟩,⟨_,rfl,Blk.le_refl _⟩,trivial⟩ ⟨rfl,rfl,rfl,rfl,rfl,trivial⟩) ?_)
  rintro k ⟨hk,hr⟩
  refine G.seqR tfine rfl trivial ?_
  refine G.seq ?_
  refine G.cond (b:=decide ((k:Int)<2)) rfl (fun h2=>?_) (fun h2=>?_)
  rotate_left
  · have h2:=of_decide_eq_false h2
    have:k=2:=by omega
    subst this
    refine G.exit ?_
    refine G.seq (G.seqR tfine rfl trivial ?_)
    refine G.cond_false rfl ?_
    refine G.skip ?_
    refine G.seqR tfine rfl trivial ?_
    exact G.ret (endK.ret rfl (by rw[hr];rfl))
  have h2:=of_decide_eq_true h2
  have hlt:k<2:=by omega
  refine G.skip ?_
  refine G.seq ?_
  refine G.block ?_
  refine G.seqR tfine rfl ⟨by omega,by omega,by omega,trivial⟩ ?_
  rw[Int.toNat_natCast]
  refine G.seq (G.seqR tfine rfl trivial ?_)
  refine G.cond (b:=decide ((k:Int)≥2)) rfl (fun h=>by have:=of_decide_eq_true h;omega) (fun h=>?_)
  refine G.skip ?_
  refine G.seqR tfine rfl ⟨by omega,by omega,by omega,trivial⟩ ?_
  rw[Int.toNat_natCast]
  refine G.seqC tfine rfl trivial ?_
  refine GO.callPlain rfl rfl rfl rfl (fun args w=>Try.call100 args w) (fun ρ w _ _=>cmpu_any (a.getD k 0) (b.getD k 0) w) ?_
  refine GO.fin tfine rfl trivial ?_
  have hs:2-k=(2-(k+1))+1:=by omega
  have hl:lexU a b k (2-(k+1)+1)=if sgnU (a.getD k 0) (b.getD k 0)≠0 then sgnU (a.getD k 0) (b.getD k 0) else lexU a b (k+1) (2-(k+1)):=rfl
  rw[hs,hl]at hr
  refine G.seqR tfine rfl trivial ?_
  refine G.cond (b:=sgnU (a.getD k 0) (b.getD k 0) != 0) rfl (fun h=>?_) (fun h=>?_)
  · rw[if_pos (by simpa using h)]at hr
    refine G.seqR tfine rfl trivial ?_
    exact G.ret (endK.ret rfl (by rw[hr]))
  rw[if_neg (by simpa using h)]at hr
  refine G.skip ?_
  refine G.reg tfine rfl trivial ?_
  rw[IntWalk.i64_in ((k:Int)+1) (by omega)]
  exact⟨k+1,⟨by omega,hr⟩,(by show 2-(k+1)<2-k;omega),St.le_of rfl ⟨⟨_,rfl,Blk.le_refl _⟩,⟨_,rfl,Blk.le_refl _⟩,trivial⟩ ⟨rfl,rfl,rfl,rfl,by simp[up,I],trivial⟩⟩
theorem lexU_words (p q:Nat):lexU [p / 18446744073709551616,p % 18446744073709551616] [q / 18446744073709551616,q % 18446744073709551616] 0 2=sgnU p q:=by
  simp only[lexU,List.getD_cons_zero,List.getD_cons_succ,Nat.zero_add]
  unfold sgnU
  have h1:=Nat.div_add_mod p 18446744073709551616
  have h2:=Nat.div_add_mod q 18446744073709551616
  have h3:p % 18446744073709551616<18446744073709551616:=Nat.mod_lt _ (by decide)
  have h4:q % 18446744073709551616<18446744073709551616:=Nat.mod_lt _ (by decide)
  generalize p / 18446744073709551616=p1 at *
  generalize p % 18446744073709551616=p0 at *
  generalize q / 18446744073709551616=q1 at *
  generalize q % 18446744073709551616=q0 at *
  repeat' split
  all_goals first|rfl|omega|(exfalso;simp_all;omega)
def cmpU (a b c d:Int):Int:=sgnU (toU a*toU d) (toU c*toU b)
def cmp0 (a b c d:Int):Int:=if a<0 then -1 else if c<0 then 1 else cmpU a b c d
def cmpM (a b c d:Int):Int:=if a<0∧c<0 then cmp0 (W (0-c)) d (W (0-a)) b else cmp0 a b c d
theorem cmp0_any (a b c d:Int) (w:World) (h:¬(a<0∧c<0)):
    Calls Try.prog 72 #[I a,I b,I c,I d] w fun e w'=>e=.returned (I (cmp0 a b c d))∧Below w.heap.size w w':=by
  refine enterPlain tfine Try.func72 rfl 57 Try.ntmps72 [.c (.k (I a)),.c (.k (I b)),.c (.k (I c)),.c (.k (I d))] [] rfl rfl trivial ⟨trivial,trivial,trivial,trivial,trivial⟩ ?_
  refine G.seqR tfine rfl trivial ?_
  refine G.seq (G.seqR tfine rfl ?_ ?_)
  · first|trivial|(simp[AllP,condB];done)|(simp only[AllP];and_intros<;>first|trivial|decide|omega)|(simp[AllP,condB];intros;and_intros<;>first|assumption|omega)|(simp[AllP,condB];intros;simp_all;done)
  refine G.cond (b:=decide (a<0)&&decide (c<0)) rfl (fun h2=>absurd (by simpa using h2) h) (fun h2=>?_)
  refine G.skip ?_
  refine G.seq (G.seqR tfine rfl ?_ ?_)
  · first|trivial|(simp[AllP,condB];done)|(simp only[AllP];and_intros<;>first|trivial|decide|omega)|(simp[AllP,condB];intros;and_intros<;>first|assumption|omega)|(simp[AllP,condB];intros;simp_all;done)
  refine G.cond (b:=decide (a<0)||decide (c<0)) rfl (fun h2=>?_) (fun h2=>?_)
  · refine G.seq (G.seqR tfine rfl trivial ?_)
    refine G.cond (b:=decide (a<0)) rfl (fun h3=>?_) (fun h3=>?_)
    · have h3:=of_decide_eq_true h3
      refine G.seqR tfine rfl trivial ?_
      exact G.ret (endK.ret rfl (by rw[cmp0,if_pos h3]))
    · have h3:=of_decide_eq_false h3
      refine G.skip ?_
      refine G.seqR tfine rfl trivial ?_
      have h4:c<0:=by simpa[h3] using h2
      exact G.ret (endK.ret rfl (by rw[cmp0,if_neg h3,if_pos h4]))
  have h3:¬a<0:=fun h=>by simp[h]at h2
  have h4:¬c<0:=fun h=>by simp[h]at h2
  refine G.skip ?_
  refine G.seqC tfine rfl trivial ?_
  rw[toU_wrap,toU_wrap]
  refine GO.callPlain rfl rfl rfl rfl (fun args w=>Try.call92 args w) (fun ρ w _ _=>mul64_any (toU a) (toU d) (toU_lt _) (toU_lt _) w) ?_
  refine GO.fin tfine rfl trivial ?_
  refine G.seqC tfine rfl trivial ?_
  rw[toU_wrap,toU_wrap]
  refine GO.callPlain rfl rfl rfl rfl (fun args w=>Try.call92 args w) (fun ρ w _ _=>mul64_any (toU c) (toU b) (toU_lt _) (toU_lt _) w) ?_
  refine GO.fin tfine rfl trivial ?_
  refine G.seqC tfine rfl trivial ?_
  have hrd:∀p q:Nat,∀i,i<2→elU [p,q] i=(([.int .u64 p,.int .u64 q]:List Value).drop ((0+i)*1)).take 1:=by
    intro p q i hi
    match i,hi with
    |0,_=>rfl
    |1,_=>rfl
  refine GO.callPlain (v:=I (lexU [toU a*toU d / 18446744073709551616,toU a*toU d % 18446744073709551616] [toU c*toU b / 18446744073709551616,toU c*toU b % 18446744073709551616] 0 2)) rfl rfl rfl rfl (fun args w=>Try.call93 args w) (fun ρ w hs hok=>?_) ?_
  · exact compareU_any _ _ _ _ [toU a*toU d / 18446744073709551616,toU a*toU d % 18446744073709551616] [toU c*toU b / 18446744073709551616,toU c*toU b % 18446744073709551616] w ((hs.rdVar (vs:=[.int .u64 (toU a*toU d / 18446744073709551616:Nat),.int .u64 (toU a*toU d % 18446744073709551616:Nat)]) rfl 0 2 (by show 2*1≤2;decide)).congr (hrd _ _)) ((hs.rdVar (vs:=[.int .u64 (toU c*toU b / 18446744073709551616:Nat),.int .u64 (toU c*toU b % 18446744073709551616:Nat)]) rfl 0 2 (by show 2*1≤2;decide)).congr (hrd _ _))
  refine GO.fin tfine rfl trivial ?_
  exact G.ret (endK.ret rfl (by rw[lexU_words,cmp0,if_neg h3,if_neg h4,cmpU]))
theorem cmp_any (a b c d:Int) (w:World) (hm : -9223372036854775808<a):
    Calls Try.prog 72 #[I a,I b,I c,I d] w fun e w'=>e=.returned (I (cmpM a b c d))∧Below w.heap.size w w':=by
  by_cases hn:a<0∧c<0
  rotate_left
  · have:=cmp0_any a b c d w hn
    rwa [show cmpM a b c d=cmp0 a b c d from by rw[cmpM,if_neg hn]]
  refine enterPlain tfine Try.func72 rfl 57 Try.ntmps72 [.c (.k (I a)),.c (.k (I b)),.c (.k (I c)),.c (.k (I d))] [] rfl rfl trivial ⟨trivial,trivial,trivial,trivial,trivial⟩ ?_
  refine G.seqR tfine rfl trivial ?_
  refine G.seq (G.seqR tfine rfl ?_ ?_)
  · first|trivial|(simp[AllP,condB];done)|(simp only[AllP];and_intros<;>first|trivial|decide|omega)|(simp[AllP,condB];intros;and_intros<;>first|assumption|omega)|(simp[AllP,condB];intros;simp_all;done)
  refine G.cond (b:=decide (a<0)&&decide (c<0)) rfl (fun h2=>?_) (fun h2=>absurd h2 (by simp[hn.1,hn.2]))
  have h:¬W (0-a)<0:=by
    have hb:(a:Int)<0:=hn.1
    rw[W,IntWalk.i64_in _ (by omega)]
    omega
  refine G.seqC tfine rfl trivial ?_
  refine GO.callPlain (v:=I (cmp0 (W (0-c)) d (W (0-a)) b)) rfl rfl rfl rfl (fun args w=>Try.call72 args w) (fun ρ w _ _=>?_) ?_
  · have:=cmp0_any (W (0-c)) d (W (0-a)) b w (fun h3=>h h3.2)
    exact this
  refine GO.fin tfine rfl trivial ?_
  exact G.ret (endK.ret rfl (by rw[cmpM,if_pos hn]))
end Go.Proofs.Ytafhnfcahhlanaa
set_option maxHeartbeats 1000000
namespace Go.Proofs.Ytafhnfcahhlanaa
open Go.Sx Go.RowKit
def absW (x:Int):Int:=if W (0-x)>x then W (0-x) else x
def divN (l:List Int):Nat→Nat
  |0=>0
  |k+1=>Nat.gcd (divN l k) (absW (l.getD k 0)).toNat
def divM (l:List Int):Nat:=divN l l.length
theorem gcd_step {g x:Nat} (hx:0<x):Nat.gcd x (g % x)=Nat.gcd g x:=by
  rw[Nat.gcd_comm x (g % x),←Nat.gcd_rec,Nat.gcd_comm]
theorem tmod_nat (g x:Nat):Int.tmod (g:Int) (x:Int)=((g % x:Nat):Int):=by
  rw[Int.ofNat_tmod]
theorem div_any (A:Option Addr) (c:Nat) (l:List Int) (w:World) (hA:RdRow w A l.length 1 (elI l)) (hn:l.length<4611686018427387904):
    Calls Try.prog 83 #[.slice A l.length c] w fun e w'=>e=.returned (I (divM l))∧Below w.heap.size w w':=by
  refine enterPlain tfine Try.func83 rfl 24 Try.ntmps83 [.c (.inp 1000 A l.length c)] [⟨1000,A,1,l.length,elI l⟩] rfl rfl ⟨hA,trivial⟩ ⟨.inl ⟨rfl,rfl,rfl⟩,trivial⟩ ?_
  refine G.seqR tfine rfl trivial ?_
  refine G.seqR tfine rfl trivial ?_
  refine G.seq ?_
  refine G.seqR tfine rfl trivial ?_
  refine G.block (G.loop (fun k:Nat=>St.of [(3,.v (.c (.k (I (divN l k))))),(6,.v (.c (.inp 1000 A l.length c))),(7,.v (.c (.k (I l.length)))),(8,.v (.c (.k (I k))))] [(1000,.ro 1 l.length (elI l))])
    (fun k=>k≤l.length) (fun k=>l.length-k) 0 (by omega) (St.le_of rfl ⟨⟨_,rfl,Blk.le_refl _⟩,trivial⟩ ⟨rfl,rfl,rfl,rfl,trivial⟩) ?_)
  rintro k hk
  refine G.seqR tfine rfl trivial ?_
  refine G.seq ?_
  refine G.cond (b:=decide ((k:Int)<(l.length:Int))) rfl (fun h2=>?_) (fun h2=>?_)
  rotate_left
  · have h2:=of_decide_eq_false h2
    have:k=l.length:=by omega
    subst this
    refine G.exit ?_
    refine G.seqR tfine rfl trivial ?_
    exact G.ret (endK.ret rfl rfl)
  have h2:=of_decide_eq_true h2
  have hlt:k<l.length:=by omega
  refine G.skip ?_
  refine G.seq ?_
  refine G.block ?_
  refine G.seqR tfine rfl ⟨by omega,by omega,by omega,trivial⟩ ?_
  rw[Int.toNat_natCast]
  refine G.seqR tfine rfl trivial ?_
  refine G.block (G.loop (fun z:Nat×Int=>St.of [(3,.v (.c (.k (I z.1)))),(5,.v (.c (.k (I z.2)))),(6,.v (.c (.inp 1000 A l.length c))),(7,.v (.c (.k (I l.length)))),(8,.v (.c (.k (I k))))] [(1000,.ro 1 l.length (elI l))])
    (fun z=>Nat.gcd z.1 z.2.toNat=divN l (k+1)) (fun z=>z.2.toNat) (divN l k,absW (l.getD k 0)) rfl (St.le_of rfl ⟨⟨_,rfl,Blk.le_refl _⟩,trivial⟩ ⟨rfl,rfl,rfl,rfl,rfl,trivial⟩) ?_)
  rintro⟨g,x⟩ hg
  simp only at hg
  refine G.seq (G.seqR tfine rfl trivial ?_)
  refine G.cond (b:=decide (x>0)) rfl (fun h3=>?_) (fun h3=>?_)
  rotate_left
  · have h3:=of_decide_eq_false h3
    have hx0:x.toNat=0:=by omega
    rw[hx0,Nat.gcd_zero_right]at hg
    refine G.exit ?_
    refine G.reg tfine rfl trivial ?_
    rw[IntWalk.i64_in ((k:Int)+1) (by omega)]
    exact⟨k+1,by omega,(by show l.length-(k+1)<l.length-k;omega),St.le_of rfl ⟨⟨_,rfl,Blk.le_refl _⟩,trivial⟩ ⟨by rw[←hg];rfl,rfl,rfl,by simp[up,I],trivial⟩⟩
  have h3:=of_decide_eq_true h3
  obtain⟨X,rfl⟩:∃X:Nat,x=X:=⟨x.toNat,by omega⟩
  refine G.skip ?_
  refine G.block ?_
  refine G.regD tfine hmix [0,0,0,6,3,31] [] rfl rfl rfl rfl ⟨by omega,trivial⟩ ?_
  have e:Int.tmod (g:Int) (X:Int)=((g % X:Nat):Int):=tmod_nat g X
  rw[Int.toNat_natCast]at hg
  exact⟨(X,((g % X:Nat):Int)),by simp only;rw[Int.toNat_natCast,gcd_step (by omega)];exact hg,by show (((g % X:Nat):Int)).toNat<(X:Int).toNat;rw[Int.toNat_natCast,Int.toNat_natCast];exact Nat.mod_lt _ (by omega),St.le_of rfl ⟨⟨_,rfl,Blk.le_refl _⟩,trivial⟩ ⟨rfl,by rw[←e];rfl,rfl,rfl,rfl,trivial⟩⟩
def inB (n:Int):Bool:=decide (n < -35184372088832)||decide (n>35184372088832)
theorem inB_any (n:Int) (w:World):Calls Try.prog 91 #[I n] w fun e w'=>e=.returned (.bool (inB n))∧Below w.heap.size w w':=by
  refine enterPlain tfine Try.func91 rfl 9 Try.ntmps91 [.c (.k (I n))] [] rfl rfl trivial ⟨trivial,trivial⟩ ?_
  refine G.seqR tfine rfl trivial ?_
  refine G.seqR tfine rfl ?_ ?_
  · first|trivial|(simp[AllP,condB];done)|(simp only[AllP];and_intros<;>first|trivial|decide|omega)|(simp[AllP,condB];intros;and_intros<;>first|assumption|omega)|(simp[AllP,condB];intros;simp_all;done)
  exact G.ret (endK.ret rfl rfl)
def anyB (l:List Int):Bool:=decide (firstI (fun k=>inB (l.getD k 0)) 0 l.length≥0)
def inM (l:List Int) (over:Int):Bool:=(decide (over≥1)&&decide (over≤35184372088832))&&!(anyB l)
theorem in_any (A:Option Addr) (c:Nat) (l:List Int) (over:Int) (w:World) (hA:RdRow w A l.length 1 (elI l)) (hn:l.length<4611686018427387904):
    Calls Try.prog 70 #[.agg #[.slice A l.length c,I over]] w fun e w'=>e=.returned (.bool (inM l over))∧Below w.heap.size w w':=by
  refine enterPlain tfine Try.func70 rfl 17 Try.ntmps70 [.agg [.inp 1000 A l.length c,.k (I over)]] [⟨1000,A,1,l.length,elI l⟩] rfl rfl ⟨hA,trivial⟩ ⟨⟨.inl ⟨rfl,rfl,rfl⟩,trivial,trivial⟩,trivial⟩ ?_
  refine G.seqR tfine rfl trivial ?_
  refine G.seqC tfine rfl ?_ ?_
  · first|trivial|(simp[AllP,condB];done)|(simp only[AllP];and_intros<;>first|trivial|decide|omega)|(simp[AllP,condB];intros;and_intros<;>first|assumption|omega)|(simp[AllP,condB];intros;simp_all;done)
  refine GO.callGuard (.bool (anyB l)) rfl rfl rfl (by first|exact trivial|exact⟨id,trivial⟩|exact⟨id,id,trivial⟩|exact⟨id,id,id,trivial⟩|exact⟨id,id,id,id,trivial⟩) rfl rfl (fun args w=>Try.call21 args w) rfl (fun _ m' hle ρ w hs hok=>?_) ?_
  · exact containsFunc_any 91 inB (fun args w=>Try.call91 args w) inB_any A c l w (hs.row (cap:=c) (hle.at rfl) (hok _ List.mem_cons_self)) (by omega)
  refine GO.fin tfine rfl ?_ ?_
  · first|trivial|(simp[AllP,condB];done)|(simp only[AllP];and_intros<;>first|trivial|decide|omega)|(simp[AllP,condB];intros;and_intros<;>first|assumption|omega)|(simp[AllP,condB];intros;simp_all;done)
  exact G.ret (endK.ret rfl rfl)
end Go.Proofs.Ytafhnfcahhlanaa
namespace Go.Proofs.Ytafhnfcahhlanaa
open Go.Sx Go.RowKit
theorem cloneC_any (A:Option Addr) (c:Nat) (L:List Int) (w:World) (hl:RdRow w A L.length 1 (elI L)) (hm:L.length≤1000000) (h0:0<L.length):
    Calls Try.prog 26 #[.slice A L.length c] w fun e w'=>OwnCap w w' e 3 L.length 1 (elI L)∧Below w.heap.size w w':=by
  refine enterOwnC tfine 3 L.length 1 (elI L) Try.func26 rfl 8 Try.ntmps26 [.c (.inp 1000 A L.length c)] [⟨1000,A,1,L.length,elI L⟩] rfl rfl ⟨hl,trivial⟩ ⟨.inl ⟨rfl,rfl,rfl⟩,trivial⟩ ?_
  refine G.seqR tfine rfl trivial ?_
  refine G.seq (G.seqR tfine rfl trivial ?_)
  refine G.cond rfl (fun h=>?_) (fun h=>?_)
  · exfalso
    have hA:A=none:=by cases A<;>simp at h ⊢
    obtain⟨b,o,e,_⟩:=hl h0
    rw[hA]at e;cases e
  refine G.skip ?_
  refine G.seqC tfine rfl trivial ?_
  refine GO.emptySliceS tfine rfl rfl rfl rfl rfl rfl rfl fun A0 hA0=>?_
  refine GO.more tfine rfl trivial ?_
  refine GO.appendNew (elI L) apT35 rfl rfl rfl rfl rfl rfl rfl rfl (RowOf.ro rfl) (fun i hi=>rfl) (fun i hi u hu=>by simp[elI]at hu;subst hu;rfl) (by unfold maxLen;omega) (by omega) (fun h1=>?_) fun h1 c' hc'=>?_
  · omega
  · refine GO.fin tfine rfl trivial ?_
    exact G.ret (endOwnC.ret rfl rfl hc' (Nat.le_refl _) rfl fun i hi=>rfl)
theorem clone0_any (A:Option Addr) (c:Nat) (w:World):
    Calls Try.prog 26 #[.slice A 0 c] w fun e w'=>∃v,e=.returned v∧(∃A0:Option Addr,v=.slice A0 0 0∧∀a,A0=some a→a.spot=none)∧Below w.heap.size w w':=by
  refine enterProp tfine (fun v=>∃A0:Option Addr,v=.slice A0 0 0∧∀a,A0=some a→a.spot=none) Try.func26 rfl 8 Try.ntmps26 [.c (.inp 1000 A 0 c)] [⟨1000,A,1,0,elI []⟩] rfl rfl ⟨RdRow.nil _ _ _ _,trivial⟩ ⟨.inl ⟨rfl,rfl,rfl⟩,trivial⟩ ?_
  refine G.seqR tfine rfl trivial ?_
  refine G.seq (G.seqR tfine rfl trivial ?_)
  refine G.cond rfl (fun h=>?_) (fun h=>?_)
  · refine G.seqR tfine rfl trivial ?_
    exact G.ret (endKp.ret rfl ⟨none,rfl,fun a h=>by cases h⟩)
  refine G.skip ?_
  refine G.seqC tfine rfl trivial ?_
  refine GO.emptySliceS tfine rfl rfl rfl rfl rfl rfl rfl fun A0 hA0=>?_
  refine GO.more tfine rfl trivial ?_
  refine GO.appendNew (elI []) apT35 rfl rfl rfl rfl rfl rfl rfl rfl (RowOf.ro rfl) (fun i hi=>rfl) (fun i hi u hu=>by omega) (by decide) (by decide) (fun h1=>?_) fun h1 c' hc'=>?_
  · refine GO.fin tfine rfl trivial ?_
    exact G.ret (endKp.ret rfl ⟨A0,rfl,hA0⟩)
  · omega
def unitL (n p:Nat):List Int:=(List.range n).map fun i:Nat=>if i=p then 1 else 0
theorem unitL_len (n p:Nat):(unitL n p).length=n:=by simp[unitL]
theorem unit_any (n p:Nat) (w:World) (hp:p<n) (hn:n≤1000000):
    Calls Try.prog 79 #[I n,I p] w fun e w'=>OwnCap w w' e 3 n 1 (elI (unitL n p))∧Below w.heap.size w w':=by
  refine enterOwnC tfine 3 n 1 (elI (unitL n p)) Try.func79 rfl 12 Try.ntmps79 [.c (.k (I n)),.c (.k (I p))] [] rfl rfl trivial ⟨trivial,trivial,trivial⟩ ?_
  refine G.seqR tfine rfl trivial ?_
  refine G.seqC tfine rfl trivial ?_
  refine GO.make1 n apT35 rfl rfl rfl rfl rfl rfl rfl rfl rfl (by unfold maxLen;omega) (by omega) (fun h0=>by omega) (fun _ c hc=>?_)
  refine GO.fin tfine rfl trivial ?_
  refine G.seqR tfine rfl ⟨by omega,by omega,by omega,trivial⟩ ?_
  rw[Int.toNat_natCast]
  refine G.seqR tfine rfl trivial ?_
  refine G.ret (endOwnC.ret rfl rfl hc (Nat.le_refl _) rfl fun i hi=>?_)
  simp only[elI,unitL]
  rw[List.getD_eq_getElem?_getD,List.getElem?_map,List.getElem?_range hi]
  by_cases e:i=p
  · subst e;simp
  · simp[e,nbeq e]
def placesL (n:Nat):List Int:=(List.range n).map fun i:Nat=>(i:Int)
theorem placesL_len (n:Nat):(placesL n).length=n:=by simp[placesL]
theorem elI_snoc (l:List Int) (x:Int) (j:Nat) (hj:j<l.length+1):elN (elI l) l.length [I x] j=elI (l++[x]) j:=by
  by_cases e:j=l.length
  · subst e
    rw[elN_eq]
    simp[elI]
  · rw[elN_lt (by omega)]
    simp only[elI]
    rw[List.getD_eq_getElem?_getD,List.getD_eq_getElem?_getD,List.getElem?_append_left (by omega)]
theorem placesL_succ (n:Nat):placesL (n+1)=placesL n++[(n:Int)]:=by simp[placesL,List.range_succ]
theorem placesC_any (n:Nat) (w:World) (h0:0<n) (hn:n≤1000000):
    Calls Try.prog 77 #[I n] w fun e w'=>OwnCap w w' e 3 n 1 (elI (placesL n))∧Below w.heap.size w w':=by
  refine enterOwnC tfine 3 n 1 (elI (placesL n)) Try.func77 rfl 15 Try.ntmps77 [.c (.k (I n))] [] rfl rfl trivial ⟨trivial,trivial⟩ ?_
  refine G.seqR tfine rfl trivial ?_
  refine G.seqR tfine rfl trivial ?_
  refine G.seq ?_
  refine G.seqR tfine rfl trivial ?_
  refine G.newNil 12 1 (elI []) rfl ?_
  refine G.block (G.loop (fun z:Nat×Nat=>St.of [(3,.v (.c (accV 12 1 z.1 z.2))),(5,.v (.c (.k (I n)))),(6,.v (.c (.k (I z.1))))] [(12,accB 3 1 z.1 z.2 (elI (placesL z.1)))])
    (fun z=>z.1≤n∧z.1≤z.2) (fun z=>n-z.1) (0,0) ⟨Nat.zero_le _,Nat.le_refl _⟩ (St.le_of rfl ⟨⟨_,rfl,Blk.le_refl _⟩,trivial⟩ ⟨rfl,rfl,rfl,trivial⟩) ?_)
  rintro⟨k,cp⟩ ⟨hk,hcp⟩
  simp only at hk hcp
  refine G.seqR tfine rfl trivial ?_
  refine G.seq ?_
  refine G.cond (b:=decide ((k:Int)<(n:Int))) rfl (fun h2=>?_) (fun h2=>?_)
  rotate_left
  · have h2:=of_decide_eq_false h2
    have:k=n:=by omega
    subst this
    refine G.exit ?_
    obtain⟨q,rfl⟩:∃q,k=q+1:=⟨k-1,by omega⟩
    refine G.seqR tfine rfl trivial ?_
    exact G.ret (endOwnC.ret rfl rfl hcp (by omega) rfl fun i hi=>rfl)
  have h2:=of_decide_eq_true h2
  have hlt:k<n:=by omega
  refine G.skip ?_
  refine G.seq (G.block ?_)
  refine G.seqR tfine rfl trivial ?_
  refine G.region_lit ?_
  refine GO.moveAny tfine rfl (.inl rfl) rfl rfl rfl ?_
  refine GO.more tfine rfl trivial ?_
  refine GO.appendAccB (n:=k) (c:=cp) (el:=elI (placesL k)) [I k] [(5,.v (.c (.k (I n)))),(6,.v (.c (.k (I k))))] [] apT35 rfl rfl rfl rfl rfl rfl rfl rfl rfl rfl (fun u hu=>by simp at hu;subst hu;rfl)
    (St.le_of rfl trivial ⟨rfl,rfl,trivial⟩) (fun z b h=>by cases h) (fun k hk=>rfl) (by unfold maxLen;omega) (by omega) fun c' hc'=>?_
  refine GO.fin tfine rfl trivial ?_
  refine G.reg tfine rfl trivial ?_
  rw[IntWalk.i64_in ((k:Int)+1) (by omega)]
  refine⟨(k+1,c'),⟨by simp only;omega,by simp only;exact hc'⟩,(by show n-(k+1)<n-k;omega),?_⟩
  have hsn:∀j,j<k+1→elI (placesL (k+1)) j=elN (elI (placesL k)) k [I k] j:=fun j hj=>by
    have:=elI_snoc (placesL k) k j (by rw[placesL_len];exact hj)
    rw[placesL_len]at this
    rw[placesL_succ,this]
  exact St.le_of rfl ⟨⟨_,rfl,rfl,rfl,Nat.le_refl _,hsn,Nat.le_refl _⟩,trivial⟩ ⟨rfl,rfl,by simp[up,I],trivial⟩
theorem places0_any (w:World):Calls Try.prog 77 #[I 0] w fun e w'=>e=.returned (.slice none 0 0)∧Below w.heap.size w w':=by
  refine enterPlain tfine Try.func77 rfl 15 Try.ntmps77 [.c (.k (I 0))] [] rfl rfl trivial ⟨trivial,trivial⟩ ?_
  refine G.seqR tfine rfl trivial ?_
  refine G.seqR tfine rfl trivial ?_
  refine G.seq ?_
  refine G.seqR tfine rfl trivial ?_
  refine G.block (G.rounds (GI.round ?_))
  refine G.seqR tfine rfl trivial ?_
  refine G.seq ?_
  refine G.cond_false rfl ?_
  refine G.exit ?_
  refine G.seqR tfine rfl trivial ?_
  exact G.ret (endK.ret rfl rfl)
end Go.Proofs.Ytafhnfcahhlanaa
namespace Go.Proofs.Ytafhnfcahhlanaa
open Go.Sx Go.RowKit
def ordN (a:List Int) (ao:Int) (b:List Int) (bo:Int):Nat→Nat→Int
  |_,0=>0
  |k,n+1=>if cmpM (a.getD k 0) ao (b.getD k 0) bo≠0 then cmpM (a.getD k 0) ao (b.getD k 0) bo else ordN a ao b bo (k+1) n
def ordM (a:List Int) (ao:Int) (b:List Int) (bo:Int):Int:=ordN a ao b bo 0 a.length
theorem order_any (A B:Option Addr) (c d:Nat) (a b:List Int) (ao bo:Int) (w:World) (hA:RdRow w A a.length 1 (elI a)) (hB:RdRow w B b.length 1 (elI b)) (hab:a.length≤b.length) (hn:b.length<4611686018427387904) (hmin:∀k,k<a.length→-9223372036854775808<a.getD k 0):
    Calls Try.prog 73 #[.agg #[.slice A a.length c,I ao],.agg #[.slice B b.length d,I bo]] w fun e w'=>e=.returned (I (ordM a ao b bo))∧Below w.heap.size w w':=by
  refine enterPlain tfine Try.func73 rfl 32 Try.ntmps73 [.agg [.inp 1000 A a.length c,.k (I ao)],.agg [.inp 1001 B b.length d,.k (I bo)]] [⟨1000,A,1,a.length,elI a⟩,⟨1001,B,1,b.length,elI b⟩] rfl rfl ⟨hA,hB,trivial⟩ ⟨⟨.inl ⟨rfl,rfl,rfl⟩,trivial,trivial⟩,⟨.inr ⟨nx rfl,.inl ⟨rfl,rfl,rfl⟩⟩,trivial,trivial⟩,trivial⟩ ?_
  refine G.seqR tfine rfl trivial ?_
  refine G.seq ?_
  refine G.seqR tfine rfl trivial ?_
  refine G.block (G.loop (fun k:Nat=>St.of [(2,.v (.c (.ptr 2 0 0 0))),(3,.v (.c (.ptr 3 0 0 0))),(9,.v (.c (.k (I a.length)))),(10,.v (.c (.k (I k))))] [(2,.var 29 [.inp 1000 A a.length c,.k (I ao)]),(3,.var 29 [.inp 1001 B b.length d,.k (I bo)]),(1000,.ro 1 a.length (elI a)),(1001,.ro 1 b.length (elI b))])
    (fun k=>k≤a.length∧ordM a ao b bo=ordN a ao b bo k (a.length-k)) (fun k=>a.length-k) 0 ⟨by omega,by simp[ordM]⟩ (St.le_of rfl ⟨⟨_,rfl,Blk.le_refl _⟩,⟨_,rfl,Blk.le_refl _⟩,⟨_,rfl,Blk.le_refl _⟩,⟨_,rfl,Blk.le_refl _⟩,trivial⟩ ⟨rfl,rfl,rfl,rfl,trivial⟩) ?_)
  rintro k ⟨hk,hr⟩
  refine G.seqR tfine rfl trivial ?_
  refine G.seq ?_
  refine G.cond (b:=decide ((k:Int)<(a.length:Int))) rfl (fun h2=>?_) (fun h2=>?_)
  rotate_left
  · have h2:=of_decide_eq_false h2
    have:k=a.length:=by omega
    subst this
    refine G.exit ?_
    refine G.seqR tfine rfl trivial ?_
    exact G.ret (endK.ret rfl (by rw[hr];simp[ordN]))
  have h2:=of_decide_eq_true h2
  have hlt:k<a.length:=by omega
  refine G.skip ?_
  refine G.seq ?_
  refine G.block ?_
  refine G.seqR tfine rfl trivial ?_
  refine G.seqDraw hmix [0,1,0,7,15,0,32,0,128,0,896,1920,0,4096,16383,32767] [] rfl rfl rfl ?_
  refine GD.more tfine 0 rfl rfl ⟨by omega,by omega,by omega,by omega,by omega,by omega,trivial⟩ ?_
  rw[Int.toNat_natCast]
  refine GD.call (v:=I (cmpM (a.getD k 0) ao (b.getD k 0) bo)) 14 rfl rfl rfl rfl rfl (fun args w=>Try.call72 args w) (fun m' hle ρ w hs hok=>cmp_any (a.getD k 0) ao (b.getD k 0) bo w (hmin k hlt)) ?_
  refine GD.fin tfine 15 rfl rfl trivial ?_
  have hs:a.length-k=(a.length-(k+1))+1:=by omega
  have hl:ordN a ao b bo k (a.length-(k+1)+1)=if cmpM (a.getD k 0) ao (b.getD k 0) bo≠0 then cmpM (a.getD k 0) ao (b.getD k 0) bo else ordN a ao b bo (k+1) (a.length-(k+1)):=rfl
  rw[hs,hl]at hr
  refine G.seqR tfine rfl trivial ?_
  refine G.cond (b:=cmpM (a.getD k 0) ao (b.getD k 0) bo != 0) rfl (fun h=>?_) (fun h=>?_)
  · rw[if_pos (by simpa using h)]at hr
    refine G.seqR tfine rfl trivial ?_
    exact G.ret (endK.ret rfl (by rw[hr]))
  rw[if_neg (by simpa using h)]at hr
  refine G.skip ?_
  refine G.reg tfine rfl trivial ?_
  rw[IntWalk.i64_in ((k:Int)+1) (by omega)]
  exact⟨k+1,⟨by omega,hr⟩,(by show a.length-(k+1)<a.length-k;omega),St.le_of rfl ⟨⟨_,rfl,Blk.le_refl _⟩,⟨_,rfl,Blk.le_refl _⟩,⟨_,rfl,Blk.le_refl _⟩,⟨_,rfl,Blk.le_refl _⟩,trivial⟩ ⟨rfl,rfl,rfl,by simp[up,I],trivial⟩⟩
end Go.Proofs.Ytafhnfcahhlanaa
namespace Go.Proofs.Ytafhnfcahhlanaa
open Go.Sx Go.RowKit
def gL (l:List Int) (over:Int):Int:=divM (l++[over])
def lowL (l:List Int) (over:Int):List Int:=l.map fun n=>W (n.tdiv (gL l over))
def lowO (l:List Int) (over:Int):Int:=W (over.tdiv (gL l over))
def chL (l:List Int) (over:Int):Nat→Option Fam
  |2=>some (ownF 709 3 l.length 1 (elI l))
  |6=>some (conF 709 13 (l.length+1) 1 (elN (elI l) l.length [I over]))
  |_=>none
theorem ownF_nm {x:Nat} {ty:TypeId} {n sz:Nat} {el:Nat→List Value}:∀u y,(mget ((ownF x ty n sz el).ms u) y).isSome=true→y∈(ownF x ty n sz el).nm:=by
  intro u y h
  simp only[ownF,mget]at h ⊢
  cases hb:Nat.beq y x with
  |true=>rw[Nat.eq_of_beq_eq_true hb];simp
  |false=>rw[hb]at h;cases h
theorem conF_nm {x d n sz:Nat} {el:Nat→List Value}:∀u y,(mget ((conF x d n sz el).ms u) y).isSome=true→y∈(conF x d n sz el).nm:=by
  intro u y h
  simp only[conF,mget]at h ⊢
  cases hb:Nat.beq y d with
  |true=>rw[Nat.eq_of_beq_eq_true hb];simp
  |false=>
    rw[hb]at h
    cases hb:Nat.beq y x with
    |true=>rw[Nat.eq_of_beq_eq_true hb];simp
    |false=>rw[hb]at h;cases h
theorem accF_nm {x d n sz:Nat} {e:TypeId} {el:Nat→List Value}:∀u y,(mget ((accF x d n sz e el).ms u) y).isSome=true→y∈(accF x d n sz e el).nm:=by
  intro u y h
  simp only[accF,mget]at h ⊢
  cases hb:Nat.beq y d with
  |true=>rw[Nat.eq_of_beq_eq_true hb];simp
  |false=>
    rw[hb]at h
    cases hb:Nat.beq y x with
    |true=>rw[Nat.eq_of_beq_eq_true hb];simp
    |false=>rw[hb]at h;cases h
theorem lowC_any (A:Option Addr) (c0:Nat) (l:List Int) (over:Int) (w:World) (hA:RdRow w A l.length 1 (elI l)) (h0:0<l.length) (hn:l.length≤100000) (hg:gL l over≠0):
    Calls Try.prog 71 #[.agg #[.slice A l.length c0,I over]] w fun e w'=>Ans w w' [.agg [.r (lowL l over).length 1 (elI (lowL l over)),.p (I (lowO l over))]] e∧Below w.heap.size w w':=by
  refine enterAns tfine _ Try.func71 rfl 37 Try.ntmps71 [.agg [.inp 1000 A l.length c0,.k (I over)]] [⟨1000,A,1,l.length,elI l⟩] rfl rfl ⟨hA,trivial⟩ ⟨⟨.inl ⟨rfl,rfl,rfl⟩,trivial,trivial⟩,trivial⟩ ?_
  refine G.seqR tfine rfl trivial ?_
  refine G.seq ?_
  apply G.drawC (ch:=chL l over) (cls:=[0,1,3,0,8,24,63,127,255]) (X:=[(2,709),(6,13),(6,709)]) hmix rfl rfl rfl
  · intro c
    refine GC.more tfine 0 rfl rfl rfl trivial ?_
    refine GC.choice 2 rfl (ownF 709 3 l.length 1 (elI l)) rfl (StepsC.callOwn 709 3 l.length 1 (elI l) rfl rfl rfl rfl rfl rfl (fun args w=>Try.call26 args w) (fun m' hle ρ w hs hok=>cloneC_any A c0 l w (hs.row (cap:=c0) (hle.at rfl) (hok _ List.mem_cons_self)) (by omega) h0)) rfl ownF_nm rfl ?_
    refine GC.more tfine 3 rfl rfl rfl trivial ?_
    refine GC.choice 6 rfl (conF 709 13 (l.length+1) 1 (elN (elI l) l.length [I over])) rfl (StepsC.appendCon (c:=capN l.length (c 2)) (room:=(capN l.length (c 2)-l.length)*1) [I over] apT35 rfl rfl rfl rfl rfl rfl rfl rfl (Nat.le_refl _) rfl rfl rfl rfl (fun u hu=>by simp at hu;subst hu;rfl) (fun k hk=>rfl) (by unfold maxLen;omega) (by omega)) rfl conF_nm rfl ?_
    refine GC.step 7 rfl rfl (tv:=toTV (I (gL l over))) (ms:=[]) (Steps.callPlain rfl rfl rfl rfl (fun args w=>Try.call83 args w) (fun m' hle ρ w hs hok=>?_)) rfl ?_
    · obtain⟨⟨A1,c1,e1,h1,_⟩,_⟩:=hs.ok 13 _ (hle.at rfl)
      have:=div_any A1 c1 (l++[over]) w (by rw[List.length_append];exact h1.congr fun i hi=>(elI_snoc l over i hi).symm) (by simp;omega)
      rw[List.length_append,List.length_singleton]at this
      show Calls Try.prog _ #[(c 6).1] w _
      rw[e1]
      exact this
    refine GC.more tfine 8 rfl rfl rfl trivial ?_
    refine GC.nil ?_
    refine G.seqR tfine rfl ⟨hg,trivial⟩ ?_
    refine G.seq ?_
    refine G.seqR tfine rfl trivial ?_
    refine G.newNil 833 1 (elI []) rfl ?_
    refine G.block (G.loop (fun z:Nat×Nat=>St.of [(2,.v (.c (.ptr 2 0 0 0))),(3,.v (.c (.k (I (gL l over))))),(4,.v (.c (.ptr 4 0 0 0))),(21,.v (.c (.inp 1000 A l.length c0))),(22,.v (.c (.k (I l.length)))),(23,.v (.c (.k (I z.1))))]
      [(2,.var 29 [.k (.slice none 0 0),.k (I 0)]),(4,.var 29 [accV 833 1 z.1 z.2,.k (I (lowO l over))]),(833,accB 3 1 z.1 z.2 (elI ((lowL l over).take z.1))),(1000,.ro 1 l.length (elI l))])
      (fun z=>z.1≤l.length∧z.1≤z.2) (fun z=>l.length-z.1) (0,0) ⟨Nat.zero_le _,Nat.le_refl _⟩ (St.le_of rfl ⟨⟨_,rfl,Blk.le_refl _⟩,⟨_,rfl,Blk.le_refl _⟩,⟨_,rfl,Blk.le_refl _⟩,⟨_,rfl,Blk.le_refl _⟩,trivial⟩ ⟨rfl,rfl,rfl,rfl,rfl,rfl,trivial⟩) ?_)
    rintro⟨k,cp⟩ ⟨hk,hcp⟩
    simp only at hk hcp
    have hlen:(lowL l over).length=l.length:=by simp[lowL]
    refine G.seqR tfine rfl trivial ?_
    refine G.seq ?_
    refine G.cond (b:=decide ((k:Int)<(l.length:Int))) rfl (fun h2=>?_) (fun h2=>?_)
    rotate_left
    · have h2:=of_decide_eq_false h2
      have:k=l.length:=by omega
      subst this
      refine G.exit ?_
      obtain⟨q,hq⟩:∃q,l.length=q+1:=⟨l.length-1,by omega⟩
      rw[List.take_of_length_le (by omega)]
      rw[hlen]
      rw[hq]at hcp ⊢
      refine G.seqR tfine rfl trivial ?_
      exact G.ret (endAns.ret ⟨⟨_,rfl,⟨⟨hcp,rfl,rfl,rfl,(by omega),fun i hi=>by rw[Nat.zero_add]⟩,rfl,trivial⟩⟩,trivial⟩)
    have h2:=of_decide_eq_true h2
    have hlt:k<l.length:=by omega
    refine G.skip ?_
    refine G.seq (G.block ?_)
    refine G.seqR tfine rfl ⟨by omega,by omega,by omega,trivial⟩ ?_
    rw[Int.toNat_natCast]
    obtain⟨v,hv⟩:∃v,v=W ((l.getD k 0).tdiv (gL l over)):=⟨_,rfl⟩
    have hvl:(lowL l over).take (k+1)=(lowL l over).take k++[v]:=by
      rw[List.take_succ_eq_append_getElem (by omega)]
      congr 2
      rw[hv]
      simp[lowL,List.getD_eq_getElem?_getD,List.getElem?_eq_getElem hlt]
    have hlk:((lowL l over).take k).length=k:=by rw[List.length_take];omega
    have hsn:∀j,j<k+1→elI ((lowL l over).take (k+1)) j=elN (elI ((lowL l over).take k)) k [I v] j:=fun j hj=>by
      have:=elI_snoc ((lowL l over).take k) v j (by rw[hlk];exact hj)
      rw[hlk]at this
      rw[hvl,this]
    rcases k with _|k
    · apply G.drawC (ch:=fun j=>match j with|6=>some (accF 833 33 (0+1) 1 3 (elN (elI ((lowL l over).take 0)) 0 [I v]))|_=>none) (cls:=[0,1,0,0,12,28,63,127,255]) (X:=[(6,33),(6,833),(8,4)]) hmix rfl rfl rfl
      · intro c
        refine GC.more tfine 0 rfl rfl rfl ⟨hg,trivial⟩ ?_
        refine GC.choice 6 rfl _ rfl (StepsC.appendAcc (n:=0) (c:=cp) [I v] apT35 rfl rfl rfl rfl rfl rfl rfl rfl rfl rfl rfl (by rw[hv];rfl) rfl (fun u hu=>by simp at hu;subst hu;rfl) (fun k hk=>rfl) (by unfold maxLen;omega) (by omega)) rfl accF_nm rfl ?_
        refine GC.more tfine 7 rfl rfl rfl trivial ?_
        refine GC.nil ?_
        refine G.weaken (st':=St.of [(2,.v (.c (.ptr 2 0 0 0))),(3,.v (.c (.k (I (gL l over))))),(4,.v (.c (.ptr 4 0 0 0))),(21,.v (.c (.inp 1000 A l.length c0))),(22,.v (.c (.k (I l.length)))),(23,.v (.c (.k (I 0))))]
          [(2,.var 29 [.k (.slice none 0 0),.k (I 0)]),(4,.var 29 [.slc 33 0 1 (0+1) (capN (0+1) (c 6)),.k (I (lowO l over))]),(33,.arr 3 1 (0+1) (elN (elI ((lowL l over).take 0)) 0 [I v]) ((capN (0+1) (c 6)-(0+1))*1)),(1000,.ro 1 l.length (elI l))])
          (St.le_of rfl ⟨⟨_,rfl,Blk.le_refl _⟩,⟨_,rfl,Blk.le_refl _⟩,⟨_,rfl,Blk.le_refl _⟩,⟨_,rfl,Blk.le_refl _⟩,trivial⟩ ⟨rfl,rfl,rfl,rfl,rfl,rfl,trivial⟩) ?_
        refine G.rn 33 833 rfl trivial rfl rfl rfl ?_
        refine G.reg tfine rfl trivial ?_
        refine⟨(0+1,capN (0+1) (c 6)),⟨by simp only;omega,capN_le _ _⟩,(by show l.length-(0+1)<l.length-0;omega),?_⟩
        exact St.le_of rfl ⟨⟨_,rfl,Blk.le_refl _⟩,⟨_,rfl,Blk.le_refl _⟩,⟨_,rfl,rfl,rfl,Nat.le_refl _,hsn,Nat.le_refl _⟩,⟨_,rfl,Blk.le_refl _⟩,trivial⟩ ⟨rfl,rfl,rfl,rfl,rfl,by first|rfl|(simp[up,I,rnS,rnTV,rnAV,rnAC];rw[IntWalk.i64_in _ (by omega)]),trivial⟩
      ·
        intro c c' j hj h
        have hj:j<9:=hj
        rcases j with _|_|_|_|_|_|_|_|_|j
        all_goals first|rfl|(show some _=some _;(try rw[h 6 (.inl rfl)]);(try rw[h 6 (.inr ⟨rfl,rfl⟩)]);done)|exact absurd hj (by omega)
    · apply G.drawC (ch:=fun j=>match j with|6=>some (accF 833 33 ((k+1)+1) 1 3 (elN (elI ((lowL l over).take (k+1))) (k+1) [I v]))|_=>none) (cls:=[0,1,0,0,12,28,63,127,255]) (X:=[(6,33),(6,833),(8,4)]) hmix rfl rfl rfl
      · intro c
        refine GC.more tfine 0 rfl rfl rfl ⟨hg,trivial⟩ ?_
        refine GC.choice 6 rfl _ rfl (StepsC.appendAcc (n:=(k+1)) (c:=cp) [I v] apT35 rfl rfl rfl rfl rfl rfl rfl rfl rfl rfl rfl (by rw[hv];rfl) rfl (fun u hu=>by simp at hu;subst hu;rfl) (fun k hk=>rfl) (by unfold maxLen;omega) (by omega)) rfl accF_nm rfl ?_
        refine GC.more tfine 7 rfl rfl rfl trivial ?_
        refine GC.nil ?_
        refine G.weaken (st':=St.of [(2,.v (.c (.ptr 2 0 0 0))),(3,.v (.c (.k (I (gL l over))))),(4,.v (.c (.ptr 4 0 0 0))),(21,.v (.c (.inp 1000 A l.length c0))),(22,.v (.c (.k (I l.length)))),(23,.v (.c (.k (I (k+1)))))]
          [(2,.var 29 [.k (.slice none 0 0),.k (I 0)]),(4,.var 29 [.slc 33 0 1 ((k+1)+1) (capN ((k+1)+1) (c 6)),.k (I (lowO l over))]),(33,.arr 3 1 ((k+1)+1) (elN (elI ((lowL l over).take (k+1))) (k+1) [I v]) ((capN ((k+1)+1) (c 6)-((k+1)+1))*1)),(1000,.ro 1 l.length (elI l))])
          (St.le_of rfl ⟨⟨_,rfl,Blk.le_refl _⟩,⟨_,rfl,Blk.le_refl _⟩,⟨_,rfl,Blk.le_refl _⟩,⟨_,rfl,Blk.le_refl _⟩,trivial⟩ ⟨rfl,rfl,rfl,rfl,rfl,rfl,trivial⟩) ?_
        refine G.rn 33 833 rfl trivial rfl rfl rfl ?_
        refine G.reg tfine rfl trivial ?_
        refine⟨((k+1)+1,capN ((k+1)+1) (c 6)),⟨by simp only;omega,capN_le _ _⟩,(by show l.length-((k+1)+1)<l.length-(k+1);omega),?_⟩
        exact St.le_of rfl ⟨⟨_,rfl,Blk.le_refl _⟩,⟨_,rfl,Blk.le_refl _⟩,⟨_,rfl,rfl,rfl,Nat.le_refl _,hsn,Nat.le_refl _⟩,⟨_,rfl,Blk.le_refl _⟩,trivial⟩ ⟨rfl,rfl,rfl,rfl,rfl,by first|rfl|(simp[up,I,rnS,rnTV,rnAV,rnAC];rw[IntWalk.i64_in _ (by omega)]),trivial⟩
      ·
        intro c c' j hj h
        have hj:j<9:=hj
        rcases j with _|_|_|_|_|_|_|_|_|j
        all_goals first|rfl|(show some _=some _;(try rw[h 6 (.inl rfl)]);(try rw[h 6 (.inr ⟨rfl,rfl⟩)]);done)|exact absurd hj (by omega)
  ·
    intro c c' j hj h
    have hj:j<9:=hj
    rcases j with _|_|_|_|_|_|_|_|_|j
    all_goals first|rfl|(show some _=some _;(try rw[h 2 (.inl rfl)]);(try rw[h 2 (.inr ⟨rfl,rfl⟩)]);(try rw[h 6 (.inl rfl)]);(try rw[h 6 (.inr ⟨rfl,rfl⟩)]);done)|exact absurd hj (by omega)
def adrC (u:Cho):Option Addr:=match u.1 with
  |.slice A _ _=>A
  |_=>none
theorem sayF_nm {x:Nat} {val:Cho→Value} {S:Cho→Nat→Prop} {R:Cho→World→Prop}:∀u y,(mget ((sayF x val S R).ms u) y).isSome=true→y∈(sayF x val S R).nm:=by
  intro u y h
  simp only[sayF,mget]at h ⊢
  cases hb:Nat.beq y x with
  |true=>rw[Nat.eq_of_beq_eq_true hb];simp
  |false=>rw[hb]at h;cases h
theorem conF0_nm {d sz:Nat} {el:Nat→List Value}:∀u y,(mget ((conF0 d sz el).ms u) y).isSome=true→y∈(conF0 d sz el).nm:=by
  intro u y h
  simp only[conF0,mget]at h ⊢
  cases hb:Nat.beq y d with
  |true=>rw[Nat.eq_of_beq_eq_true hb];simp
  |false=>rw[hb]at h;cases h
theorem steady_true {S:Nat→Prop}:Steady S (fun _=>True):=fun _ _ _ _ _=>trivial
theorem low0_any (A:Option Addr) (c0:Nat) (over:Int) (w:World) (hg:gL [] over≠0):
    Calls Try.prog 71 #[.agg #[.slice A 0 c0,I over]] w fun e w'=>Ans w w' [.agg [.r 0 1 (elI []),.p (I (lowO [] over))]] e∧Below w.heap.size w w':=by
  refine enterAns tfine _ Try.func71 rfl 37 Try.ntmps71 [.agg [.inp 1000 A 0 c0,.k (I over)]] [⟨1000,A,1,0,elI []⟩] rfl rfl ⟨RdRow.nil _ _ _ _,trivial⟩ ⟨⟨.inl ⟨rfl,rfl,rfl⟩,trivial,trivial⟩,trivial⟩ ?_
  refine G.seqR tfine rfl trivial ?_
  refine G.seq ?_
  apply G.drawC (ch:=fun j=>match j with|2=>some (sayF 709 (fun u=>.slice (adrC u) 0 0) (fun _ _=>False) (fun _ _=>True))|6=>some (conF0 13 1 (elN (elI []) 0 [I over]))|_=>none) (cls:=[0,1,3,0,8,24,63,127,255]) (X:=[(2,709),(6,13)]) hmix rfl rfl rfl
  · intro c
    refine GC.more tfine 0 rfl rfl rfl trivial ?_
    refine GC.choice 2 rfl _ rfl (StepsC.callSay 709 (fun u=>.slice (adrC u) 0 0) (fun _ _=>False) (fun _ _=>True) rfl rfl rfl rfl rfl (fun args w=>Try.call26 args w) (fun m' hle ρ w hs hok=>(clone0_any A c0 w).mono ?_)) rfl sayF_nm rfl ?_
    · rintro e w' ⟨v,rfl,⟨A0,rfl,_⟩,hb⟩
      exact⟨(.slice A0 0 0,fun _=>False),rfl,hb,trivial,fun k hk=>hk.elim,steady_true⟩
    refine GC.more tfine 3 rfl rfl rfl trivial ?_
    refine GC.choice 6 rfl _ rfl (StepsC.appendCon0 (A0:=adrC (c 2)) (elI []) [I over] apT35 rfl rfl rfl rfl rfl rfl rfl rfl rfl (fun u hu=>by simp at hu;subst hu;rfl) (by decide)) rfl conF0_nm rfl ?_
    refine GC.step 7 rfl rfl (tv:=toTV (I (gL [] over))) (ms:=[]) (Steps.callPlain rfl rfl rfl rfl (fun args w=>Try.call83 args w) (fun m' hle ρ w hs hok=>?_)) rfl ?_
    · obtain⟨⟨A1,c1,e1,h1,_⟩,_⟩:=hs.ok 13 _ (hle.at rfl)
      have:=div_any A1 c1 [over] w (h1.congr fun i hi=>(elI_snoc [] over i hi).symm) (by simp)
      show Calls Try.prog _ #[(c 6).1] w _
      rw[e1]
      exact this
    refine GC.more tfine 8 rfl rfl rfl trivial ?_
    refine GC.nil ?_
    refine G.seqR tfine rfl ⟨hg,trivial⟩ ?_
    refine G.seq ?_
    refine G.seqR tfine rfl trivial ?_
    refine G.block (G.rounds (GI.round ?_))
    refine G.seqR tfine rfl trivial ?_
    refine G.seq ?_
    refine G.cond_false rfl ?_
    refine G.exit ?_
    refine G.seqR tfine rfl trivial ?_
    exact G.ret (endAns.ret ⟨⟨_,rfl,⟨⟨rfl,rfl,fun a h=>by cases h⟩,rfl,trivial⟩⟩,trivial⟩)
  ·
    intro c c' j hj h
    have hj:j<9:=hj
    rcases j with _|_|_|_|_|_|_|_|_|j
    all_goals first|rfl|(show some _=some _;(try rw[h 2 (.inl rfl)]);(try rw[h 2 (.inr ⟨rfl,rfl⟩)]);(try rw[h 6 (.inl rfl)]);(try rw[h 6 (.inr ⟨rfl,rfl⟩)]);done)|exact absurd hj (by omega)
theorem low_any (A:Option Addr) (c0:Nat) (l:List Int) (over:Int) (w:World) (hA:RdRow w A l.length 1 (elI l)) (hn:l.length≤100000) (hg:gL l over≠0):
    Calls Try.prog 71 #[.agg #[.slice A l.length c0,I over]] w fun e w'=>Ans w w' [.agg [.r (lowL l over).length 1 (elI (lowL l over)),.p (I (lowO l over))]] e∧Below w.heap.size w w':=by
  cases l with
  |nil=>exact low0_any A c0 over w hg
  |cons x l=>exact lowC_any A c0 (x::l) over w hA (by simp) hn hg
end Go.Proofs.Ytafhnfcahhlanaa
namespace Go.Proofs.Ytafhnfcahhlanaa
open Go.Sx Go.RowKit
theorem cloneIO_any (A:Option Addr) (c:Nat) (L:List Int) (w:World) (hl:RdRow w A L.length 1 (elI L)) (hm:L.length≤1000000) (h0:0<L.length):
    Calls Try.prog 26 #[.slice A L.length c] w fun e w'=>OwnNew w w' e 3 L.length 1 (elI L)∧Below w.heap.size w w':=by
  refine enterOwnNew tfine 3 L.length 1 (elI L) Try.func26 rfl 8 Try.ntmps26 [.c (.inp 1000 A L.length c)] [⟨1000,A,1,L.length,elI L⟩] rfl rfl ⟨hl,trivial⟩ ⟨.inl ⟨rfl,rfl,rfl⟩,trivial⟩ ?_
  refine G.seqR tfine rfl trivial ?_
  refine G.seq (G.seqR tfine rfl trivial ?_)
  refine G.cond rfl (fun h=>?_) (fun h=>?_)
  · exfalso
    have hA:A=none:=by cases A<;>simp at h ⊢
    obtain⟨b,o,e,_⟩:=hl h0
    rw[hA]at e;cases e
  refine G.skip ?_
  refine G.seqC tfine rfl trivial ?_
  refine GO.emptySliceS tfine rfl rfl rfl rfl rfl rfl rfl fun A0 hA0=>?_
  refine GO.more tfine rfl trivial ?_
  refine GO.appendNew (elI L) apT35 rfl rfl rfl rfl rfl rfl rfl rfl (RowOf.ro rfl) (fun i hi=>rfl) (fun i hi u hu=>by simp[elI]at hu;subst hu;rfl) (by unfold maxLen;omega) (by omega) (fun h1=>?_) fun h1 c' hc'=>?_
  · omega
  · refine GO.fin tfine rfl trivial ?_
    exact G.ret (endOwnN.ret rfl rfl hc' rfl fun i hi=>rfl)
def delF (el:Nat→List Value) (i q:Nat):List Value:=if q<i then el q else el (q+1)
theorem deleteIs_any (b n c i:Nat) (el:Nat→List Value) (w:World) (ho:OwnAt w b 3 n 1 el 0) (hi:i<n) (hc:n≤c) (h1:∀q,q<n→∀u∈el q,u.oneCell'=true) (hn:n≤1000000):
    Calls Try.prog 82 #[.slice (some ⟨b,0,none⟩) n c,I i,I ((i:Int)+1)] w fun e w'=>e=.returned (.slice (some ⟨b,0,none⟩) (n-1) c)∧Fr w [b] w'∧OwnAt w' b 3 (n-1) 1 (delF el i) 0:=by
  refine (enterBwS tfine 1900 b 1 (n-1) c [⟨1900,b,.arr 3 1 n el 0⟩] [⟨1900,b,.arr 3 1 (n-1) (delF el i) 0⟩] Try.func82 rfl 33 Try.ntmps82 [.c (.slc 1900 0 1 n c),.c (.k (I i)),.c (.k (I ((i:Int)+1)))] []
    trivial trivial ⟨trivial,trivial⟩ ⟨⟨Nat.le_refl _,trivial,trivial,ho⟩,trivial⟩ rfl rfl ⟨.inl rfl,trivial,trivial,trivial⟩ (fun q hq=>by simp only[List.mem_cons,List.not_mem_nil,or_false]at hq;subst hq;exact⟨_,List.mem_cons_self,rfl,rfl⟩) ⟨trivial,trivial⟩ ⟨_,List.mem_cons_self,rfl,rfl⟩ ?_).mono fun e w' h=>⟨h.1,h.2.1,h.2.2.1⟩
  refine G.seqR tfine rfl trivial ?_
  refine G.seqC tfine rfl trivial ?_
  refine GO.slice3 tfine i ((i:Int)+1) n rfl rfl rfl rfl rfl rfl rfl rfl rfl rfl (by omega) (by omega) (by omega) (by omega) (GO.nil ?_)
  refine G.seq (G.seqR tfine rfl trivial ?_)
  refine G.cond (b:=((i:Int)==(i:Int)+1)) rfl (fun h=>?_) (fun h=>?_)
  · exfalso
    simp only[beq_iff_eq]at h
    omega
  refine G.skip ?_
  refine G.seqR tfine rfl trivial ?_
  have e1:i+(n-(i+1))=n-1:=by omega
  have e2:(n-(n-1))*1=1:=by omega
  have hel:∀q,q<i+(n-(i+1))→delF el i q=if q<i then el q else el (i+1+(q-i)):=fun q hq=>by
    unfold delF
    by_cases h:q<i
    · rw[if_pos h,if_pos h]
    · rw[if_neg h,if_neg h]
      congr 1
      omega
  refine G.join (fun _:Unit=>St.of [(0,.v (.c (.slc 1900 0 1 (n-1) c))),(7,.v (.c (.k (I n))))] [(1900,.arr 3 1 (n-1) (delF el i) 1)]) (fun _=>True) ?_ ?_
  · by_cases hcc:i+1<c
    · refine G.draw (cls:=[0,0,3,0,0,24,63,127]) (X:=[(6,1900)]) hmix rfl rfl rfl ?_
      refine GD.more tfine 0 rfl rfl ?_ ?_
      · simp only[AllP];and_intros<;>first|trivial|omega
      have z1:((i:Int).toNat-Int.toNat 0)=i:=by simp
      have z2:c-Int.toNat 0=c:=by simp
      have z3:(0+Int.toNat 0)=0:=rfl
      have z4:(0+((i:Int)+1).toNat)=i+1:=by omega
      have z5:((n:Int).toNat-((i:Int)+1).toNat)=n-(i+1):=by omega
      have z6:c-((i:Int)+1).toNat=c-(i+1):=by omega
      rw[z1,z2,z3,z4,z5,z6]
      refine GD.appendIn (i:=i) (j:=i+1) (k:=n-(i+1)) (c2:=c-(i+1)) (delF el i) 6 rfl apT35 rfl rfl rfl rfl rfl rfl rfl (by omega) (by omega) (by omega) h1 hel ?_
      rw[e1,e2]
      refine GD.fin tfine 7 rfl rfl trivial ?_
      exact⟨(),trivial,St.le_of rfl ⟨⟨_,rfl,Blk.le_refl _⟩,trivial⟩ ⟨rfl,rfl,trivial⟩⟩
    · have hn1:n=i+1:=by omega
      have hc1:c=i+1:=by omega
      subst hn1 hc1
      refine G.draw (cls:=[0,0,3,0,0,24,63,127]) (X:=[(6,1900)]) hmix rfl rfl rfl ?_
      refine GD.op1 tfine 0 rfl rfl trivial rfl ?_
      refine GD.op1 tfine 1 rfl rfl trivial rfl ?_
      refine GD.op1 tfine 2 rfl rfl ?_ rfl ?_
      · simp only[AllP];and_intros<;>first|trivial|omega
      refine GD.op1 tfine 3 rfl rfl trivial rfl ?_
      refine GD.op1 tfine 4 rfl rfl trivial rfl ?_
      have z1:((i:Int).toNat-Int.toNat 0)=i:=by simp
      have z2:(i+1)-Int.toNat 0=i+1:=by simp
      have z3:(0+Int.toNat 0)=0:=rfl
      rw[z1,z2,z3]
      refine GD.sliceEnd (n:=i+1) tfine 5 rfl rfl rfl rfl rfl rfl rfl rfl rfl ?_
      refine GD.appendIn (i:=i) (j:=0) (k:=0) (c2:=0) (delF el i) 6 rfl apT35 rfl rfl rfl rfl rfl rfl rfl (by omega) (by omega) (by omega) h1 (fun q hq=>by rw[hel q (by omega),if_pos (by omega),if_pos (by omega)]) ?_
      rw[show i+0=i+1-1 by omega,show (i+1-(i+1-1))*1=1 by omega]
      refine GD.fin tfine 7 rfl rfl trivial ?_
      exact⟨(),trivial,St.le_of rfl ⟨⟨_,rfl,Blk.le_refl _⟩,trivial⟩ ⟨rfl,rfl,trivial⟩⟩
  rintro _ _
  refine G.seqC tfine rfl ?_ ?_
  · simp only[AllP];and_intros<;>first|trivial|omega
  have y1:(0+(((n-1:Nat):Int)).toNat)=n-1:=by simp
  have y2:((n:Int).toNat-(((n-1:Nat):Int)).toNat)=n-(n-1):=by simp
  have y3:c-(((n-1:Nat):Int)).toNat=c-(n-1):=by simp
  rw[y1,y2,y3]
  refine GO.clear (i:=n-1) (k:=n-(n-1)) (c:=c-(n-1)) apT35 rfl rfl rfl rfl rfl (by omega) (by omega) (by omega) (fun w=>by kernel_rfl) (fun u hu=>by simp[Value.cells]at hu;subst hu;rfl) (GO.nil ?_)
  refine G.seqR tfine rfl trivial ?_
  exact G.ret (endBwS.ret rfl rfl ⟨⟨_,_,rfl,fun q hq=>rfl⟩,trivial⟩)
theorem elI_erase (L:List Int) (i q:Nat) (hq:q<L.length-1) (hi:i<L.length):elI (L.eraseIdx i) q=delF (elI L) i q:=by
  have h1:q<(L.eraseIdx i).length:=by rw[List.length_eraseIdx];split<;>omega
  have:(L.eraseIdx i).getD q 0=if q<i then L.getD q 0 else L.getD (q+1) 0:=by
    simp only[List.getD_eq_getElem?_getD]
    rw[List.getElem?_eraseIdx]
    split<;>rfl
  unfold delF elI
  rw[this]
  split<;>rfl
def IntsAt (w:World) (v:Value) (l:List Int):Prop:=∃A c,v=.slice A l.length c∧RdRow w A l.length 1 (elI l)∧(0<l.length→l.length≤c)
def MatAt (w:World) (v:Value) (M:List (List Int)) (vs:Nat→Value):Prop:=∃A c,v=.slice A M.length c∧RdRow w A M.length 1 (fun i=>[vs i])∧(0<M.length→M.length≤c)∧∀i,i<M.length→IntsAt w (vs i) (M.getD i [])
theorem IntsAt.below {w w':World} {v:Value} {l:List Int} (h:IntsAt w v l) (hb:Below w.heap.size w w'):IntsAt w' v l:=by
  obtain⟨A,c,rfl,h1,h2⟩:=h
  exact⟨A,c,rfl,h1.below hb,h2⟩
theorem MatAt.below {w w':World} {v:Value} {M:List (List Int)} {vs:Nat→Value} (h:MatAt w v M vs) (hb:Below w.heap.size w w'):MatAt w' v M vs:=by
  obtain⟨A,c,rfl,h1,h2,h3⟩:=h
  exact⟨A,c,rfl,h1.below hb,h2,fun i hi=>(h3 i hi).below hb⟩
def detL (r:List Int) (D:List Int→Int) (cols:List Int):Nat→Int×Int
  |0=>(0,1)
  |k+1=>(if r.getD (cols.getD k 0).toNat 0≠0 then W ((detL r D cols k).1+W (W ((detL r D cols k).2*r.getD (cols.getD k 0).toNat 0)*D (cols.eraseIdx k))) else (detL r D cols k).1,W (0-(detL r D cols k).2))
def detC:List (List Int)→List Int→Int
  |[]=>fun cols=>if cols=[] then 1 else 0
  |r::M=>fun cols=>if cols=[] then 1 else (detL r (detC M) cols cols.length).1
theorem det_any:∀(M:List (List Int)) (cols:List Int) (rv:Value) (vs:Nat→Value) (C:Option Addr) (cc:Nat) (w:World),MatAt w rv M vs→RdRow w C cols.length 1 (elI cols)→cols.length≤M.length→M.length≤1000→(∀c∈cols,0≤c∧∀r∈M,c<r.length)→(∀r∈M,r.length≤100000)→
    Calls Try.prog 76 #[rv,.slice C cols.length cc] w fun e w'=>e=.returned (I (detC M cols))∧Below w.heap.size w w':=by
  intro M
  induction M with
  |nil=>
    rintro cols rv vs C cc w ⟨A,c,rfl,hA,hc,hv⟩ hC hl _ _ _
    have:cols=[]:=by simpa using hl
    subst this
    refine enterPlain tfine Try.func76 rfl 49 Try.ntmps76 [.c (.inp 1000 A 0 c),.c (.inp 1001 C 0 cc)] [⟨1000,A,1,0,fun i=>[vs i]⟩,⟨1001,C,1,0,elI []⟩] rfl rfl ⟨hA,hC,trivial⟩ ⟨.inl ⟨rfl,rfl,rfl⟩,.inr ⟨nx rfl,.inl ⟨rfl,rfl,rfl⟩⟩,trivial⟩ ?_
    refine G.seqR tfine rfl trivial ?_
    refine G.seq (G.seqR tfine rfl trivial ?_)
    refine G.cond_true rfl ?_
    refine G.seqR tfine rfl trivial ?_
    exact G.ret (endK.ret rfl rfl)
  |cons r M ih=>
    rintro cols rv vs C cc w ⟨A,c,rfl,hA,hc,hv⟩ hC hl hM hcol hrl
    have hM1:M.length+1≤1000:=hM
    have hl1:cols.length≤M.length+1:=hl
    refine enterPlain tfine Try.func76 rfl 49 Try.ntmps76 [.c (.inp 1000 A (M.length+1) c),.c (.inp 1001 C cols.length cc)] [⟨1000,A,1,M.length+1,fun i=>[vs i]⟩,⟨1001,C,1,cols.length,elI cols⟩] rfl rfl ⟨hA,hC,trivial⟩ ⟨.inl ⟨rfl,rfl,rfl⟩,.inr ⟨nx rfl,.inl ⟨rfl,rfl,rfl⟩⟩,trivial⟩ ?_
    refine G.seqR tfine rfl trivial ?_
    refine G.seq (G.seqR tfine rfl trivial ?_)
    refine G.cond (b:=(((cols.length:Nat):Int)==0)) rfl (fun h=>?_) (fun h=>?_)
    · have:cols=[]:=by
        have h:(cols.length:Int)=0:=by simpa using h
        exact List.length_eq_zero_iff.1 (by omega)
      subst this
      refine G.seqR tfine rfl trivial ?_
      exact G.ret (endK.ret rfl rfl)
    have hne:cols≠[]:=fun e=>by subst e;simp at h
    refine G.skip ?_
    refine G.seqR tfine rfl trivial ?_
    refine G.seq ?_
    refine G.seqR tfine rfl trivial ?_
    refine G.block (G.loop (fun k:Nat=>St.of [(0,.v (.c (.inp 1000 A (M.length+1) c))),(1,.v (.c (.inp 1001 C cols.length cc))),(5,.v (.c (.k (I (detL r (detC M) cols k).1)))),(6,.v (.c (.k (I (detL r (detC M) cols k).2)))),(14,.v (.c (.inp 1001 C cols.length cc))),(15,.v (.c (.k (I cols.length)))),(16,.v (.c (.k (I k))))] [(1000,.ro 1 (M.length+1) fun i=>[vs i]),(1001,.ro 1 cols.length (elI cols))])
      (fun k=>k≤cols.length) (fun k=>cols.length-k) 0 (by omega) (St.le_of rfl ⟨⟨_,rfl,Blk.le_refl _⟩,⟨_,rfl,Blk.le_refl _⟩,trivial⟩ ⟨rfl,rfl,rfl,rfl,rfl,rfl,rfl,trivial⟩) ?_)
    rintro k hk
    refine G.seqR tfine rfl trivial ?_
    refine G.seq ?_
    refine G.cond (b:=decide ((k:Int)<(cols.length:Int))) rfl (fun h2=>?_) (fun h2=>?_)
    rotate_left
    · have h2:=of_decide_eq_false h2
      have:k=cols.length:=by omega
      subst this
      refine G.exit ?_
      refine G.seqR tfine rfl trivial ?_
      refine G.ret (endK.ret rfl ?_)
      show I _=I ((if cols=[] then 1 else (detL r (detC M) cols cols.length).1))
      rw[if_neg hne]
    have h2:=of_decide_eq_true h2
    have hlt:k<cols.length:=by omega
    refine G.skip ?_
    refine G.seq ?_
    refine G.block ?_
    refine G.seqR tfine rfl ⟨by omega,by omega,by omega,trivial⟩ ?_
    rw[Int.toNat_natCast]
    obtain⟨x,hx⟩:∃x,x=cols.getD k 0:=⟨_,rfl⟩
    have hxm:x∈cols:=by rw[hx,List.getD_eq_getElem?_getD,List.getElem?_eq_getElem hlt];exact List.getElem_mem hlt
    have hx0:=(hcol x hxm).1
    have hxr:=(hcol x hxm).2 r List.mem_cons_self
    have hrl0:=hrl r List.mem_cons_self
    obtain⟨A0,c0,e0,h0,_⟩:=hv 0 (Nat.succ_pos _)
    have h0:RdRow w A0 r.length 1 (elI r):=h0
    have e0:vs 0=.slice A0 r.length c0:=e0
    rw[←hx]
    refine G.seqC tfine rfl trivial ?_
    refine GO.steps (Steps.callOwnR 705 3 cols.length 1 (elI cols) rfl rfl rfl rfl rfl rfl rfl (fun args w=>Try.call26 args w) (fun m' hle ρ w1 hs hok=>cloneIO_any C cc cols w1 (hs.row (cap:=cc) (hle.at rfl) (hok _ List.mem_cons_self)) (by omega) (by omega))) ?_
    refine GO.more tfine rfl trivial ?_
    rw[IntWalk.i64_in ((k:Int)+1) (by omega)]
    refine GO.callTurnR 705 3 cols.length (cols.length-1) 1 w.heap.size (elI cols) (delF (elI cols) k) rfl rfl rfl rfl rfl List.mem_cons_self (Nat.sub_le _ _) (fun args w=>Try.call82 args w) (fun m1 hle ρ w1 hs hok=>?_) ?_
    · have o:=hok _ List.mem_cons_self
      have e:=hs.rowAd (hle.at rfl) o (by omega)
      have:=deleteIs_any (ρ 705).1 cols.length (ρ 755).1 k (elI cols) w1 (hs.ownA (hle.at rfl)) hlt o.2.2.2 (fun q hq u hu=>by simp[elI]at hu;subst hu;rfl) (by omega)
      have e2:(List.map (AV.conc ρ) [AV.c (.row 705 cols.length w.heap.size),AV.c (.k (I k)),AV.c (.k (I ((k:Int)+1)))]++List.map (Cap.conc ρ) []).toArray=#[.slice (some ⟨(ρ 705).1,0,none⟩) cols.length (ρ 755).1,I k,I ((k:Int)+1)]:=by
        simp[AV.conc,AC.conc,e]
      have e3:AC.conc ρ (.row 705 (cols.length-1) w.heap.size)=.slice (some ⟨(ρ 705).1,0,none⟩) (cols.length-1) (ρ 755).1:=by
        simp[AC.conc,e]
      rw[←e2,←e3]at this
      exact this
    refine GO.fin tfine rfl trivial ?_
    have hst:detL r (detC M) cols (k+1)=(if r.getD x.toNat 0≠0 then W ((detL r (detC M) cols k).1+W (W ((detL r (detC M) cols k).2*r.getD x.toNat 0)*detC M (cols.eraseIdx k))) else (detL r (detC M) cols k).1,W (0-(detL r (detC M) cols k).2)):=by rw[hx];rfl
    refine G.join (fun s:Int=>St.of [(0,.v (.c (.inp 1000 A (M.length+1) c))),(1,.v (.c (.inp 1001 C cols.length cc))),(5,.v (.c (.k (I s)))),(6,.v (.c (.k (I (detL r (detC M) cols k).2)))),(14,.v (.c (.inp 1001 C cols.length cc))),(15,.v (.c (.k (I cols.length)))),(16,.v (.c (.k (I k))))] [(1000,.ro 1 (M.length+1) fun i=>[vs i]),(1001,.ro 1 cols.length (elI cols))])
      (fun s=>s=(detL r (detC M) cols (k+1)).1) ?_ ?_
    · refine G.seqC tfine rfl ⟨by omega,by omega,by omega,trivial⟩ ?_
      refine GO.openRow (A:=A0) (n:=r.length) (sz:=1) (cap:=c0) (el:=elI r) 702 29 h0 rfl (by rw[←e0];rfl) rfl rfl ?_
      refine GO.fin tfine rfl ⟨by omega,by omega,by omega,trivial⟩ ?_
      refine G.seqR tfine rfl trivial ?_
      refine G.cond (b:=r.getD x.toNat 0 != 0) rfl (fun h3=>?_) (fun h3=>?_)
      · refine G.region_lit (GO.firstN tfine 5 rfl trivial ?_)
        refine GO.tail1 tfine rfl rfl rfl rfl rfl rfl rfl (by omega) (hc (Nat.succ_pos _)) ?_
        refine GO.more tfine rfl trivial ?_
        refine GO.callPlain (v:=I (detC M (cols.eraseIdx k))) rfl rfl rfl rfl (fun args w=>Try.call76 args w) (fun ρ w1 hs hok=>?_) ?_
        · have hll:(cols.eraseIdx k).length=cols.length-1:=by rw[List.length_eraseIdx,if_pos hlt]
          have hrd:=hs.rowA rfl (hok _ (List.mem_cons_of_mem _ List.mem_cons_self)) (Nat.le_refl _)
          have hb:=hs.fr.toBelow
          have:=ih (cols.eraseIdx k) (.slice (tailA A c 1) M.length (c-1)) (fun i=>vs (i+1)) (rowAd ρ 705) (ρ 755).1 w1 ⟨_,_,rfl,(hA.below hb).tail (hc (Nat.succ_pos _)),fun _=>by have hc1:M.length+1≤c:=hc (Nat.succ_pos _);omega,fun i hi=>(hv (i+1) (by simpa using hi)).below hb⟩
            (by rw[hll];exact hrd.congr fun i hi=>elI_erase cols k i hi hlt) (by rw[hll];omega) (by omega) (fun c hc=>⟨(hcol c (List.mem_of_mem_eraseIdx hc)).1,fun r' hr'=>(hcol c (List.mem_of_mem_eraseIdx hc)).2 r' (List.mem_cons_of_mem _ hr')⟩) (fun r' hr'=>hrl r' (List.mem_cons_of_mem _ hr'))
          rw[hll]at this
          exact this
        refine GO.fin tfine rfl trivial ?_
        refine⟨_,?_,St.le_of rfl ⟨⟨_,rfl,Blk.le_refl _⟩,⟨_,rfl,Blk.le_refl _⟩,trivial⟩ ⟨rfl,rfl,rfl,rfl,rfl,rfl,rfl,trivial⟩⟩
        rw[hst,if_pos (by simpa using h3)]
      · refine G.skip ?_
        refine⟨_,?_,St.le_of rfl ⟨⟨_,rfl,Blk.le_refl _⟩,⟨_,rfl,Blk.le_refl _⟩,trivial⟩ ⟨rfl,rfl,rfl,rfl,rfl,rfl,rfl,trivial⟩⟩
        rw[hst,if_neg (by simpa using h3)]
    rintro s hs
    refine G.reg tfine rfl trivial ?_
    refine G.reg tfine rfl trivial ?_
    rw[IntWalk.i64_in ((k:Int)+1) (by omega)]
    exact⟨k+1,by omega,(by show cols.length-(k+1)<cols.length-k;omega),St.le_of rfl ⟨⟨_,rfl,Blk.le_refl _⟩,⟨_,rfl,Blk.le_refl _⟩,trivial⟩ ⟨rfl,rfl,by rw[←hs];rfl,by rw[hst];rfl,rfl,rfl,by simp[up,I],trivial⟩⟩
end Go.Proofs.Ytafhnfcahhlanaa
namespace Go.Proofs.Ytafhnfcahhlanaa
open Go.Sx Go.RowKit
abbrev Cond:=List Int×Int
def cAt (L:List Cond) (i:Nat):Cond:=L.getD i ([],0)
def elC (L:List Cond) (vs:Nat→Value) (i:Nat):List Value:=[vs i,I (cAt L i).2]
def ConsAt (w:World) (v:Value) (L:List Cond) (vs:Nat→Value):Prop:=∃A c,v=.slice A L.length c∧RdRow w A L.length 2 (elC L vs)∧(0<L.length→L.length≤c)∧∀i,i<L.length→IntsAt w (vs i) (cAt L i).1
theorem ConsAt.below {w w':World} {v:Value} {L:List Cond} {vs:Nat→Value} (h:ConsAt w v L vs) (hb:Below w.heap.size w w'):ConsAt w' v L vs:=by
  obtain⟨A,c,rfl,h1,h2,h3⟩:=h
  exact⟨A,c,rfl,h1.below hb,h2,fun i hi=>(h3 i hi).below hb⟩
def Pt (g:Nat):Value:=.pointer (some ⟨g,0,none⟩)
def failC (nums:List Int) (over:Int) (r:Cond):Bool:=decide (dotL r.1 nums<W (r.2*over))
theorem fail_any (v:Value) (r:Cond) (B:Option Addr) (d b1 b2:Nat) (nums:List Int) (over:Int) (w:World) (hv:IntsAt w v r.1) (hB:RdRow w B nums.length 1 (elI nums)) (h1:w.heap[b1]?=some (.cells #[.slice B nums.length d] 22 (0,0))) (h2:w.heap[b2]?=some (.cells #[I over] 3 (0,0)))
    (hl:r.1.length≤nums.length) (hn:nums.length≤100000):
    Calls Try.prog 97 #[.agg #[v,I r.2],Pt b1,Pt b2] w fun e w'=>e=.returned (.bool (failC nums over r))∧Below w.heap.size w w':=by
  obtain⟨A,c,rfl,hA,_⟩:=hv
  refine enterOld [.agg [.k (.slice A r.1.length c),.k (I r.2)],.c (.k (Pt b1)),.c (.k (Pt b2))] Try.func97 rfl 14 Try.ntmps97 rfl rfl ⟨⟨trivial,trivial,trivial⟩,trivial,trivial,trivial⟩ ?_
  refine G.openPtr (b:=b1) (ty:=22) (cs:=[.slice B nums.length d]) 1 701 1 rfl (fun w' ha=>heap_asOf h1 ha) (lt_of_heap h1) rfl rfl rfl ?_
  refine G.openPtr (b:=b2) (ty:=3) (cs:=[I over]) 1 702 2 rfl (fun w' ha=>heap_asOf h2 ha) (lt_of_heap h2) rfl rfl rfl ?_
  refine G.seqR tfine rfl trivial ?_
  refine G.seqDraw hmix [0,1,0,7,0,16,0,112,255,511] [] rfl rfl rfl ?_
  refine GD.more tfine 0 rfl rfl ⟨by decide,trivial⟩ ?_
  refine GD.call (v:=I (dotL r.1 nums)) 3 rfl rfl rfl rfl rfl (fun args w=>Try.call39 args w) (fun m' hle ρ w1 hs hok=>dot_any A B c d r.1 nums w1 (hA.below hs.fr.toBelow) (hB.below hs.fr.toBelow) hl (by omega)) ?_
  refine GD.fin tfine 4 rfl rfl ⟨by decide,trivial⟩ ?_
  exact G.ret (retK.plain tfine rfl rfl)
theorem firstI_cons (p:Nat→Bool) (k n:Nat) (h:0<n):firstI p k n=if p k=true then (k:Int) else firstI p (k+1) (n-1):=by
  obtain⟨m,rfl⟩:∃m,n=m+1:=⟨n-1,by omega⟩
  simp[firstI]
theorem indexC_any (q:Nat→Bool) (b1 b2:Nat) (A:Option Addr) (c:Nat) (L:List Cond) (vs:Nat→Value) (w:World) (hA:RdRow w A L.length 2 (elC L vs)) (hn:L.length≤100000)
    (hq:∀i,i<L.length→∀w1,Below w.heap.size w w1→Calls Try.prog 97 #[.agg #[vs i,I (cAt L i).2],Pt b1,Pt b2] w1 fun e w'=>e=.returned (.bool (q i))∧Below w1.heap.size w1 w'):
    Calls Try.prog 103 #[.slice A L.length c,.func (.func 97) #[] #[Pt b1,Pt b2]] w fun e w'=>e=.returned (I (firstI q 0 L.length))∧Below w.heap.size w w':=by
  refine enterPlain tfine Try.func103 rfl 19 Try.ntmps103 [.c (.inp 1000 A L.length c),.c (.k (.func (.func 97) #[] #[Pt b1,Pt b2]))] [⟨1000,A,2,L.length,elC L vs⟩] rfl rfl ⟨hA,trivial⟩ ⟨.inl ⟨rfl,rfl,rfl⟩,trivial,trivial⟩ ?_
  refine G.seqR tfine rfl trivial ?_
  refine G.seq (G.seqR tfine rfl trivial ?_)
  refine G.block (G.loop (fun k:Nat=>St.of [(0,.v (.c (.inp 1000 A L.length c))),(1,.v (.c (.k (.func (.func 97) #[] #[Pt b1,Pt b2])))),(7,.v (.c (.k (I L.length)))),(8,.v (.c (.k (I k))))] [(1000,.ro 2 L.length (elC L vs))])
    (fun k=>k≤L.length∧firstI q 0 L.length=firstI q k (L.length-k)) (fun k=>L.length-k) 0 ⟨by omega,by simp⟩ (St.le_of rfl ⟨⟨_,rfl,Blk.le_refl _⟩,trivial⟩ ⟨rfl,rfl,rfl,rfl,trivial⟩) ?_)
  rintro k ⟨hk,hfi⟩
  refine G.seqR tfine rfl trivial ?_
  refine G.seq (G.cond rfl (fun h=>?_) (fun h=>?_))
  rotate_left
  · have h:=of_decide_eq_false h
    have:k=L.length:=by omega
    subst this
    refine G.exit ?_
    refine G.seqR tfine rfl trivial ?_
    refine G.ret (endK.ret rfl ?_)
    rw[hfi]
    simp[firstI]
  have h:=of_decide_eq_true h
  have hlt:k<L.length:=by omega
  rw[firstI_cons q k _ (by omega)]at hfi
  refine G.skip ?_
  refine G.seq (G.block ?_)
  refine G.seqR tfine rfl trivial ?_
  refine G.seqC tfine rfl ⟨by simpa using hlt,by omega,by omega,trivial⟩ ?_
  rw[Int.toNat_natCast]
  refine GO.callPlain (v:=.bool (q k)) rfl rfl rfl rfl (fun args w=>Try.call97 args w) (fun ρ w1 hs _=>hq k hlt w1 hs.fr.toBelow) (GO.nil ?_)
  refine G.cond (b:=q k) rfl (fun h2=>?_) (fun h2=>?_)
  · refine G.seqR tfine rfl trivial ?_
    refine G.ret (endK.ret rfl ?_)
    rw[hfi,if_pos h2]
  · refine G.skip ?_
    refine G.reg tfine rfl trivial ?_
    rw[IntWalk.i64_in _ (by omega)]
    rw[if_neg (by simpa using h2)]at hfi
    exact⟨k+1,⟨by omega,by rw[hfi];rfl⟩,(by show L.length-(k+1)<L.length-k;omega),St.le_of rfl ⟨⟨_,rfl,Blk.le_refl _⟩,trivial⟩ ⟨rfl,rfl,rfl,by simp[up,I],trivial⟩⟩
theorem containsC_any (q:Nat→Bool) (b1 b2:Nat) (A:Option Addr) (c:Nat) (L:List Cond) (vs:Nat→Value) (w:World) (hA:RdRow w A L.length 2 (elC L vs)) (hn:L.length≤100000)
    (hq:∀i,i<L.length→∀w1,Below w.heap.size w w1→Calls Try.prog 97 #[.agg #[vs i,I (cAt L i).2],Pt b1,Pt b2] w1 fun e w'=>e=.returned (.bool (q i))∧Below w1.heap.size w1 w'):
    Calls Try.prog 96 #[.slice A L.length c,.func (.func 97) #[] #[Pt b1,Pt b2]] w fun e w'=>e=.returned (.bool (decide (firstI q 0 L.length≥0)))∧Below w.heap.size w w':=by
  refine enterPlain tfine Try.func96 rfl 9 Try.ntmps96 [.c (.inp 1000 A L.length c),.c (.k (.func (.func 97) #[] #[Pt b1,Pt b2]))] [⟨1000,A,2,L.length,elC L vs⟩] rfl rfl ⟨hA,trivial⟩ ⟨.inl ⟨rfl,rfl,rfl⟩,trivial,trivial⟩ ?_
  refine G.seqR tfine rfl trivial ?_
  refine G.seqC tfine rfl trivial ?_
  refine GO.callPlain (v:=I (firstI q 0 L.length)) rfl rfl rfl rfl (fun args w=>Try.call103 args w) (fun ρ w1 hs hok=>indexC_any q b1 b2 A c L vs w1 (hA.below hs.fr.toBelow) hn fun i hi w2 hb=>hq i hi w2 (hs.fr.below hb).toBelow) ?_
  refine GO.fin tfine rfl trivial ?_
  exact G.ret (endK.ret rfl rfl)
def keepsM (L:List Cond) (nums:List Int) (over:Int):Bool:=!decide (firstI (fun i=>failC nums over (cAt L i)) 0 L.length≥0)
theorem keeps_any (lv:Value) (L:List Cond) (vs:Nat→Value) (B:Option Addr) (d:Nat) (nums:List Int) (over:Int) (w:World) (hL:ConsAt w lv L vs) (hB:RdRow w B nums.length 1 (elI nums))
    (hl:∀i,i<L.length→(cAt L i).1.length≤nums.length) (hn:nums.length≤100000) (hn2:L.length≤100000):
    Calls Try.prog 78 #[lv,.slice B nums.length d,I over] w fun e w'=>e=.returned (.bool (keepsM L nums over))∧Below w.heap.size w w':=by
  obtain⟨A,c,rfl,hA,hc,hi⟩:=hL
  refine enterPlain tfine Try.func78 rfl 11 Try.ntmps78 [.c (.inp 1000 A L.length c),.c (.inp 1001 B nums.length d),.c (.k (I over))] [⟨1000,A,2,L.length,elC L vs⟩,⟨1001,B,1,nums.length,elI nums⟩] rfl rfl ⟨hA,hB,trivial⟩ ⟨.inl ⟨rfl,rfl,rfl⟩,.inr ⟨nx rfl,.inl ⟨rfl,rfl,rfl⟩⟩,trivial,trivial⟩ ?_
  refine G.seqR tfine rfl trivial ?_
  refine G.seqC tfine rfl trivial ?_
  refine GO.callPlain (v:=.bool (decide (firstI (fun i=>failC nums over (cAt L i)) 0 L.length≥0))) rfl rfl rfl rfl (fun args w=>Try.call96 args w) (fun ρ w1 hs hok=>?_) ?_
  · have k4:=hs.ok 4 _ rfl
    have k5:=hs.ok 5 _ rfl
    have h4:w1.heap[(ρ 4).1]?=some (.cells #[.slice B nums.length d] 22 (0,0)):=by simpa[AC.conc] using k4.2.2.1
    have h5:w1.heap[(ρ 5).1]?=some (.cells #[I over] 3 (0,0)):=by simpa[AC.conc] using k5.2.2.1
    have hb:=hs.fr.toBelow
    have:=containsC_any (fun i=>failC nums over (cAt L i)) (ρ 4).1 (ρ 5).1 A c L vs w1 (hA.below hb) hn2 fun i hlt w2 hb2=>by
      exact fail_any (vs i) (cAt L i) B d (ρ 4).1 (ρ 5).1 nums over w2 (((hi i hlt).below hb).below hb2) ((hB.below hb).below hb2) ((hb2.block _ (lt_of_heap h4)).trans h4) ((hb2.block _ (lt_of_heap h5)).trans h5) (hl i hlt) hn
    have e:(List.map (AV.conc ρ) [AV.c (.inp 1000 A L.length c),AV.c (.fn 97 [.own 4 0,.own 5 0])]++List.map (Cap.conc ρ) []).toArray=#[.slice A L.length c,.func (.func 97) #[] #[Pt (ρ 4).1,Pt (ρ 5).1]]:=by
      simp[AV.conc,AC.conc,Cap.conc,Pt,k4.1,k5.1]
    rw[←e]at this
    exact this
  refine GO.fin tfine rfl trivial ?_
  exact G.ret (endK.ret rfl rfl)
end Go.Proofs.Ytafhnfcahhlanaa
namespace Go.Proofs.Ytafhnfcahhlanaa
open Go.Sx Go.RowKit
def oc1 (x:Int):Int:=IntKind.u64.wrap (bitsOp .and .u64 (x.fdiv (2 ^ (min (1:Int).toNat IntKind.u64.bits))) 6148914691236517205+bitsOp .and .u64 x 6148914691236517205)
def oc2 (x:Int):Int:=IntKind.u64.wrap (bitsOp .and .u64 (x.fdiv (2 ^ (min (2:Int).toNat IntKind.u64.bits))) 3689348814741910323+bitsOp .and .u64 x 3689348814741910323)
def oc3 (x:Int):Int:=bitsOp .and .u64 (IntKind.u64.wrap (x.fdiv (2 ^ (min (4:Int).toNat IntKind.u64.bits))+x)) 1085102592571150095
def oc4 (k:Int) (x:Int):Int:=IntKind.u64.wrap (x+x.fdiv (2 ^ (min k.toNat IntKind.u64.bits)))
def ocF (x:Int):Int:=bitsOp .and .i64 (IntKind.i64.wrap (oc4 32 (oc4 16 (oc4 8 (oc3 (oc2 (oc1 x))))))) 127
theorem onesCount64_any (x:Int) (w:World):Calls Try.prog 102 #[.int .u64 x] w fun e w'=>e=.returned (I (ocF x))∧Below w.heap.size w w':=by
  refine enterPlain tfine Try.func102 rfl 35 Try.ntmps102 [.c (.k (.int .u64 x))] [] rfl rfl trivial ⟨trivial,trivial⟩ ?_
  refine G.seqR tfine rfl trivial ?_
  refine G.seqR tfine rfl ⟨by decide,trivial⟩ ?_
  refine G.seqR tfine rfl ⟨by decide,trivial⟩ ?_
  refine G.seqR tfine rfl ⟨by decide,trivial⟩ ?_
  refine G.seqR tfine rfl ⟨by decide,trivial⟩ ?_
  refine G.seqR tfine rfl ⟨by decide,trivial⟩ ?_
  refine G.seqR tfine rfl ⟨by decide,trivial⟩ ?_
  refine G.seqR tfine rfl trivial ?_
  exact G.ret (endK.ret rfl rfl)
theorem onesCount_any (x:Int) (w:World):Calls Try.prog 95 #[.int .u64 x] w fun e w'=>e=.returned (I (ocF x))∧Below w.heap.size w w':=by
  refine enterPlain tfine Try.func95 rfl 8 Try.ntmps95 [.c (.k (.int .u64 x))] [] rfl rfl trivial ⟨trivial,trivial⟩ ?_
  refine G.seqR tfine rfl trivial ?_
  refine G.seq (G.cond (b:=false) rfl (fun h=>by cases h) (fun h=>?_))
  refine G.skip ?_
  refine G.seqC tfine rfl trivial ?_
  refine GO.callPlain (v:=I (ocF x)) rfl rfl rfl rfl (fun args w=>Try.call102 args w) (fun ρ w hs hok=>onesCount64_any x w) ?_
  refine GO.fin tfine rfl trivial ?_
  exact G.ret (endK.ret rfl rfl)
def cntB (s:Nat):Nat→Nat
  |0=>0
  |k+1=>cond (s.testBit k) (cntB s k+1) (cntB s k)
theorem ocF_all:∀a:Fin 256,ocF ((a.val:Nat):Int)=((cntB a.val 8:Nat):Int):=by
  decide +kernel
theorem cntB_stop (s k:Nat) (h:s<2 ^ k) (j:Nat):cntB s (k+j)=cntB s k:=by
  induction j with
  |zero=>rfl
  |succ j ih=>
    rw[←Nat.add_assoc,cntB,ih,Nat.testBit_lt_two_pow (Nat.lt_of_lt_of_le h (Nat.pow_le_pow_right (by decide) (Nat.le_add_right k j)))]
    rfl
theorem pow_min64 (s:Nat) (hs:s≤64):(2:Int) ^ (min ((s:Nat):Int).toNat IntKind.i64.bits)=((2 ^ s:Nat):Int):=by
  rw[Int.toNat_natCast,show IntKind.i64.bits=64 from rfl,Nat.min_eq_left hs];simp
theorem two_pow13 {i:Nat} (h:i≤14):2 ^ i≤16384:=Nat.pow_le_pow_right (n:=2) (by decide) h
theorem shl1 (i:Nat) (h:i≤14):IntKind.i64.wrap (1*2 ^ (min ((i:Nat):Int).toNat IntKind.i64.bits))=((2 ^ i:Nat):Int):=by
  rw[pow_min64 i (by omega),Int.one_mul,IntWalk.i64_in]
  have:=two_pow13 h
  generalize 2 ^ i=p at *
  omega
def bitC (s i:Nat):Bool:=bitsOp .and .i64 ((s:Int).fdiv (2 ^ (min ((i:Nat):Int).toNat IntKind.i64.bits))) 1==1
theorem bitC_eq (s i:Nat) (hs:s<16384) (hi:i≤64):bitC s i=s.testBit i:=by
  rw[bitC,pow_min64 i hi,Int.fdiv_eq_ediv_of_nonneg _ (Int.natCast_nonneg _),←Int.natCast_ediv]
  have hq:s / 2 ^ i<2 ^ 64:=Nat.lt_of_le_of_lt (Nat.div_le_self _ _) (by omega)
  have:bitsOp .and .i64 ((s / 2 ^ i:Nat):Int) 1=((s / 2 ^ i % 2:Nat):Int):=by
    show IntKind.i64.wrap (((BitVec.ofInt 64 ((s / 2 ^ i:Nat):Int) &&& BitVec.ofInt 64 1).toNat:Nat):Int)=_
    rw[BitVec.ofInt_natCast,show BitVec.ofInt 64 1=BitVec.ofNat 64 1 from rfl,BitVec.toNat_and,BitVec.toNat_ofNat,BitVec.toNat_ofNat,Nat.mod_eq_of_lt hq,show 1 % 2 ^ 64=1 by rfl,Nat.and_one_is_mod,IntWalk.i64_in]
    generalize s / 2 ^ i=q at *
    omega
  rw[this,Nat.testBit_eq_decide_div_mod_eq]
  rw[Bool.eq_iff_iff]
  generalize s / 2 ^ i=q at *
  rw[beq_iff_eq,decide_eq_true_iff]
  omega
def setN (s:Nat):Nat→List Int
  |0=>[]
  |k+1=>if s.testBit k=true then setN s k++[(k:Int)] else setN s k
theorem setN_cnt (s k:Nat):(setN s k).length=cntB s k:=by
  induction k with
  |zero=>rfl
  |succ k ih=>
    rw[setN,cntB]
    cases h:s.testBit k with
    |true=>simp[ih]
    |false=>simp[ih]
theorem setN_le (s k:Nat):(setN s k).length≤k:=by
  induction k with
  |zero=>exact Nat.le_refl _
  |succ k ih=>
    rw[setN]
    split
    · rw[List.length_append];simp;omega
    · omega
theorem setN_oc (s n:Nat) (hn:n≤8) (h:s<2 ^ n):ocF (s:Int)=(((setN s n).length:Nat):Int):=by
  have h8:s<256:=Nat.lt_of_lt_of_le h (Nat.pow_le_pow_right (n:=2) (by decide) hn)
  rw[ocF_all ⟨s,h8⟩,setN_cnt]
  congr 1
  have:=cntB_stop s n h (8-n)
  rw[show n+(8-n)=8 by omega]at this
  exact this
def chooseN (n k:Nat):Nat→List (List Int)
  |0=>[]
  |s+1=>if (setN s n).length=k then chooseN n k s++[setN s n] else chooseN n k s
def chooseM (n k:Nat):List (List Int):=chooseN n k (2 ^ n)
theorem mem_chooseN {n k s S:Nat} (hs:s<S) (h:(setN s n).length=k):setN s n∈chooseN n k S:=by
  induction S with
  |zero=>omega
  |succ S ih=>
    rw[chooseN]
    by_cases e:s=S
    · subst e
      rw[if_pos h];simp
    · have:=ih (by omega)
      split
      · exact List.mem_append_left _ this
      · exact this
theorem choose_mem {n k S:Nat} {l:List Int} (h:l∈chooseN n k S):∃s,s<S∧l=setN s n∧l.length=k:=by
  induction S with
  |zero=>cases h
  |succ S ih=>
    rw[chooseN]at h
    split at h
    · rename_i hk
      rcases List.mem_append.1 h with h|h
      · obtain⟨s,h1,h2⟩:=ih h
        exact⟨s,by omega,h2⟩
      · have:l=setN S n:=by simpa using h
        exact⟨S,by omega,this,by rw[this];exact hk⟩
    · obtain⟨s,h1,h2⟩:=ih h
      exact⟨s,by omega,h2⟩
theorem mem_setN {s n:Nat} {x:Int} (h:x∈setN s n):0≤x∧x<n:=by
  induction n with
  |zero=>cases h
  |succ n ih=>
    rw[setN]at h
    split at h
    · rcases List.mem_append.1 h with h|h
      · have:=ih h;omega
      · have:x=n:=by simpa using h
        omega
    · have:=ih h;omega
def RelI (x:List Int) (w:World) (v:Value):Prop:=IntsAt w v x
theorem choices_iter (n k b1 b2:Nat) (w:World) (hn:n≤8) (h1:w.heap[b1]?=some (.cells #[I n] 3 (0,0))) (h2:w.heap[b2]?=some (.cells #[I k] 3 (0,0))):
    Iter Try.prog (.func (.func 94) #[] #[Pt b1,Pt b2]) (fun x=>x=b1∨x=b2) (fun _=>RelI) (chooseM n k) w:=by
  refine⟨94,#[Pt b1,Pt b2],rfl,fun args w=>Try.call94 args w,?_⟩
  intro l T J Z W hrd hsz hT hZ hR hJ
  rw[show (#[.func (.yield l) #[] #[]]++#[Pt b1,Pt b2]:Array Value)=#[.func (.yield l) #[] #[],Pt b1,Pt b2] from by simp]
  have e1:W.heap[b1]?=some (.cells #[I n] 3 (0,0)):=(hrd b1 (.inl rfl)).trans h1
  have e2:W.heap[b2]?=some (.cells #[I k] 3 (0,0)):=(hrd b2 (.inr rfl)).trans h2
  have hTW:∀k∈T,k<W.heap.size:=fun k hk=>(hT k hk).1
  obtain⟨S1,hS1⟩:∃S1:Nat→Prop,S1=fun x=>x=b1∨x=b2:=⟨_,rfl⟩
  obtain⟨R1,hR1⟩:∃R1:World→Prop,R1=fun w=>w.heap[b1]?=some (.cells #[I n] 3 (0,0))∧w.heap[b2]?=some (.cells #[I k] 3 (0,0)):=⟨_,rfl⟩
  have hst1:Steady S1 R1:=by rw[hS1,hR1];exact (Steady.heap (.inl rfl)).and (Steady.heap (.inr rfl))
  have hlt1:∀k,S1 k→k<W.heap.size:=by rw[hS1];exact fun k hk=>hk.elim (fun e=>e▸lt_of_heap e1) (fun e=>e▸lt_of_heap e2)
  have hST:∀k∈T,¬S1 k:=by rw[hS1];exact fun k hk=>(hT k hk).2
  refine enterSay T [.c (.k (.func (.yield l) #[] #[])),.c (.k (Pt b1)),.c (.k (Pt b2))] [(1,.say S1 R1),(2,.say Z (J [] Z))] Try.func94 rfl 36 Try.ntmps94 rfl rfl ⟨trivial,trivial,trivial,trivial⟩
    ⟨⟨(by rw[hR1];exact⟨e1,e2⟩),hlt1,hst1⟩,⟨fun h=>h.elim,fun h=>h.elim,trivial⟩,⟨hJ,hZ,hR.1 _ _⟩,trivial,trivial⟩ ?_
  refine G.seqC tfine rfl trivial ?_
  refine GO.steps (Steps.loadK tfine 1 [I n] rfl rfl rfl rfl rfl (fun w h=>by rw[hR1]at h;exact h.1) rfl rfl) ?_
  refine GO.fin tfine rfl ⟨by omega,trivial⟩ ?_
  rw[shl1 n (by omega)]
  refine G.block (G.loop (fun z:Nat×(Nat→Prop)=>St.of [(0,.v (.c (.k (.func (.yield l) #[] #[])))),(1,.v (.c (.k (Pt b1)))),(2,.v (.c (.k (Pt b2)))),(8,.v (.c (.k (I (2 ^ n:Nat))))),(9,.v (.c (.k (I z.1))))] [(1,.say S1 R1),(2,.say z.2 (J (chooseN n k z.1) z.2))])
    (fun z=>z.1≤2 ^ n) (fun z=>2 ^ n-z.1) (0,Z) (Nat.zero_le _) (St.le_of rfl ⟨⟨_,rfl,Blk.le_refl _⟩,⟨_,rfl,Blk.le_refl _⟩,trivial⟩ ⟨rfl,rfl,rfl,rfl,rfl,trivial⟩) ?_)
  rintro⟨s,Z⟩ hs
  simp only at hs
  have hp8:2 ^ n≤256:=Nat.pow_le_pow_right (n:=2) (by decide) hn
  refine G.seqR tfine rfl trivial ?_
  refine G.seq ?_
  refine G.cond (b:=decide ((s:Int)<((2 ^ n:Nat):Int))) rfl (fun h3=>?_) (fun h3=>?_)
  rotate_left
  · have h3:=of_decide_eq_false h3
    have:s=2 ^ n:=by omega
    subst this
    refine G.exit ?_
    refine⟨.inr rfl,fun ρ a w' hs=>⟨_,results_run tfine hs rfl,⟨_,rfl⟩,?_,Z,?_⟩⟩
    · have:=hs.mem.fr
      simp only[borT_snd]at this
      exact this
    · obtain⟨j1,j2,_⟩:=hs.mem.ok 2 _ rfl
      exact⟨j1,j2⟩
  have h3:=of_decide_eq_true h3
  have hlt:s<2 ^ n:=by omega
  refine G.skip ?_
  refine G.seq ?_
  refine G.block ?_
  refine G.seqR tfine rfl trivial ?_
  refine G.seq ?_
  refine G.seqDraw hmix [0,1,3,0,15] [] rfl rfl rfl ?_
  refine GD.more tfine 0 rfl rfl trivial ?_
  have hsu:IntKind.u64.wrap (s:Int)=(s:Int):=by rw[IntKind.wrap_u64];omega
  rw[hsu]
  refine GD.call (v:=I (setN s n).length) 2 rfl rfl rfl rfl rfl (fun args w=>Try.call95 args w) (fun m' hle ρ w1 hs _=>by have:=onesCount_any (s:Int) w1;rw[setN_oc s n hn hlt]at this;exact this) ?_
  refine GD.stepF 3 rfl (Steps.loadK tfine 1 [I k] rfl rfl rfl rfl rfl (fun w h=>by rw[hR1]at h;exact h.2) rfl rfl) rfl ?_
  refine GD.fin tfine 4 rfl rfl trivial ?_
  refine G.cond (b:=(((setN s n).length:Nat):Int) != (k:Int)) rfl (fun h4=>?_) (fun h4=>?_)
  · have h4:(setN s n).length≠k:=by
      have h4:¬(((setN s n).length:Nat):Int)=(k:Int):=by simpa using h4
      omega
    refine G.exit ?_
    refine G.reg tfine rfl trivial ?_
    rw[IntWalk.i64_in ((s:Int)+1) (by omega)]
    refine⟨(s+1,Z),(by show s+1≤2 ^ n;omega),(by show 2 ^ n-(s+1)<2 ^ n-s;omega),?_⟩
    have e:chooseN n k (s+1)=chooseN n k s:=by rw[chooseN,if_neg h4]
    simp only[e]
    exact St.le_of rfl ⟨⟨_,rfl,Blk.le_refl _⟩,⟨_,rfl,Blk.le_refl _⟩,trivial⟩ ⟨rfl,rfl,rfl,rfl,by simp[up,I],trivial⟩
  have h4:(setN s n).length=k:=by
    have h4:(((setN s n).length:Nat):Int)=(k:Int):=by simpa using h4
    omega
  refine G.skip ?_
  refine G.seqR tfine rfl trivial ?_
  refine G.seq ?_
  refine G.seqC tfine rfl trivial ?_
  refine GO.steps (Steps.loadK tfine 1 [I n] rfl rfl rfl rfl rfl (fun w h=>by rw[hR1]at h;exact h.1) rfl rfl) ?_
  refine GO.fin tfine rfl trivial ?_
  refine G.newNil 29 1 (elI []) rfl ?_
  refine G.block (G.loop (fun z:Nat×Nat=>St.of [(0,.v (.c (.k (.func (.yield l) #[] #[])))),(1,.v (.c (.k (Pt b1)))),(2,.v (.c (.k (Pt b2)))),(8,.v (.c (.k (I (2 ^ n:Nat))))),(9,.v (.c (.k (I s)))),(4,.v (.c (.k (I s)))),(5,.v (.c (accV 29 1 (setN s z.1).length z.2))),(17,.v (.c (.k (I n)))),(18,.v (.c (.k (I z.1))))] [(1,.say S1 R1),(2,.say Z (J (chooseN n k s) Z)),(29,accB 3 1 (setN s z.1).length z.2 (elI (setN s z.1)))])
    (fun z=>z.1≤n∧(setN s z.1).length≤z.2) (fun z=>n-z.1) (0,0) ⟨Nat.zero_le _,Nat.le_refl _⟩ (St.le_of rfl ⟨⟨_,rfl,Blk.le_refl _⟩,⟨_,rfl,Blk.le_refl _⟩,⟨_,rfl,Blk.le_refl _⟩,trivial⟩ ⟨rfl,rfl,rfl,rfl,rfl,rfl,rfl,rfl,rfl,trivial⟩) ?_)
  rintro⟨i,cp⟩ ⟨hi,hcp⟩
  simp only at hi hcp
  have hin:=setN_le s i
  refine G.seqR tfine rfl trivial ?_
  refine G.seq ?_
  refine G.cond (b:=decide ((i:Int)<(n:Int))) rfl (fun h5=>?_) (fun h5=>?_)
  rotate_left
  · have h5:=of_decide_eq_false h5
    have:i=n:=by omega
    subst this
    refine G.exit ?_
    have e:chooseN i k (s+1)=chooseN i k s++[setN s i]:=by rw[chooseN,if_pos h4]
    have hmem:setN s i∈chooseM i k:=mem_chooseN hlt h4
    rcases hL:setN s i with _|⟨x,L⟩
    · rw[hL]at hmem e
      refine G.seq ?_
      refine G.regC tfine rfl trivial ?_
      refine GO.weaken (st':=St.of [(0,.v (.c (.k (.func (.yield l) #[] #[])))),(1,.v (.c (.k (Pt b1)))),(2,.v (.c (.k (Pt b2)))),(8,.v (.c (.k (I (2 ^ i:Nat))))),(9,.v (.c (.k (I s)))),(31,.v (.c (.k (.func (.yield l) #[] #[])))),(32,.v (.c (.k (.slice none 0 0))))] [(1,.say S1 R1),(2,.say Z (J (chooseN i k s) Z))]) (St.le_of rfl ⟨⟨_,rfl,Blk.le_refl _⟩,⟨_,rfl,Blk.le_refl _⟩,trivial⟩ ⟨rfl,rfl,rfl,rfl,rfl,rfl,rfl,trivial⟩) ?_
      refine GO.yield (av:=.c (.k (.slice none 0 0))) (xs:=chooseM i k) 2 (chooseN i k s) [] Z hR hmem rfl hTW rfl rfl rfl rfl rfl rfl rfl rfl (calm_of ⟨.inr ⟨(by show (1:Nat)<1000;decide),hST⟩,.inl rfl,trivial⟩) (fun ρ w1 hs _=>⟨⟨none,0,rfl,RdRow.nil _ _ _ _,fun h=>absurd h (Nat.lt_irrefl 0)⟩,fun k hk=>absurd hk.1 (Nat.lt_irrefl 0)⟩) fun Z'=>?_
      refine GO.fin tfine rfl trivial ?_
      refine G.cond_false rfl ?_
      refine G.skip ?_
      refine G.reg tfine rfl trivial ?_
      rw[IntWalk.i64_in ((s:Int)+1) (by omega)]
      refine⟨(s+1,Z'),(by show s+1≤2 ^ i;omega),(by show 2 ^ i-(s+1)<2 ^ i-s;omega),?_⟩
      simp only[e]
      exact St.le_of rfl ⟨⟨_,rfl,Blk.le_refl _⟩,⟨_,rfl,Blk.le_refl _⟩,trivial⟩ ⟨rfl,rfl,rfl,rfl,by simp[up,I],trivial⟩
    · rw[hL]at hmem e
      have hcp:L.length+1≤cp:=by rw[hL]at hcp;exact hcp
      refine G.seq ?_
      refine G.regC tfine rfl trivial ?_
      refine GO.weaken (st':=St.of [(0,.v (.c (.k (.func (.yield l) #[] #[])))),(1,.v (.c (.k (Pt b1)))),(2,.v (.c (.k (Pt b2)))),(8,.v (.c (.k (I (2 ^ i:Nat))))),(9,.v (.c (.k (I s)))),(31,.v (.c (.k (.func (.yield l) #[] #[])))),(32,.v (.c (.slc 29 0 1 (L.length+1) cp)))] [(1,.say S1 R1),(2,.say Z (J (chooseN i k s) Z)),(29,.arr 3 1 (L.length+1) (elI (x::L)) ((cp-(L.length+1))*1))]) (St.le_of rfl ⟨⟨_,rfl,Blk.le_refl _⟩,⟨_,rfl,Blk.le_refl _⟩,⟨_,rfl,Blk.le_refl _⟩,trivial⟩ ⟨rfl,rfl,rfl,rfl,rfl,rfl,rfl,trivial⟩) ?_
      refine GO.freezeArr 29 32 rfl rfl (Nat.le_refl _) fun g hg=>?_
      have hgW:W.heap.size≤g:=by
        rcases hg with hg|hg
        · exact hg
        · have:=(borT_mem hg).1
          simp only at this
          omega
      refine GO.weaken (st':=St.of [(0,.v (.c (.k (.func (.yield l) #[] #[])))),(1,.v (.c (.k (Pt b1)))),(2,.v (.c (.k (Pt b2)))),(8,.v (.c (.k (I (2 ^ i:Nat))))),(9,.v (.c (.k (I s)))),(31,.v (.c (.k (.func (.yield l) #[] #[])))),(32,.v (.c (.k (.slice (some ⟨g,0,none⟩) (L.length+1) cp))))] [(1,.say S1 R1),(2,.say Z (J (chooseN i k s) Z)),(29,.say (·=g) fun w=>RdRow w (some ⟨g,0,none⟩) (L.length+1) 1 (elI (x::L)))]) (St.le_of rfl ⟨⟨_,rfl,Blk.le_refl _⟩,⟨_,rfl,Blk.le_refl _⟩,⟨_,rfl,Blk.le_refl _⟩,trivial⟩ ⟨rfl,rfl,rfl,rfl,rfl,rfl,rfl,trivial⟩) ?_
      have hgT:∀k∈T,¬k=g:=fun k hk e=>by have:=hTW k hk;omega
      refine GO.yield (av:=.c (.k (.slice (some ⟨g,0,none⟩) (L.length+1) cp))) (xs:=chooseM i k) 2 (chooseN i k s) (x::L) Z hR hmem rfl hTW rfl rfl rfl rfl rfl rfl rfl rfl (calm_of ⟨.inr ⟨(by show (1:Nat)<1000;decide),hST⟩,.inl rfl,.inr ⟨(by show (29:Nat)<1000;decide),hgT⟩,trivial⟩) (fun ρ w1 hs _=>?_) fun Z'=>?_
      · obtain⟨f1,f2⟩:=hs.sayAt (X:=29) rfl
        refine⟨⟨_,_,rfl,f1,fun _=>hcp⟩,fun k hk=>?_⟩
        obtain⟨_,a,ea,rfl⟩:=hk
        cases ea
        exact⟨(f2 g rfl).1,fun hk=>hgT _ hk rfl,(f2 g rfl).2⟩
      refine GO.fin tfine rfl trivial ?_
      refine G.cond_false rfl ?_
      refine G.skip ?_
      refine G.reg tfine rfl trivial ?_
      rw[IntWalk.i64_in ((s:Int)+1) (by omega)]
      refine⟨(s+1,Z'),(by show s+1≤2 ^ i;omega),(by show 2 ^ i-(s+1)<2 ^ i-s;omega),?_⟩
      simp only[e]
      exact St.le_of rfl ⟨⟨_,rfl,Blk.le_refl _⟩,⟨_,rfl,Blk.le_refl _⟩,trivial⟩ ⟨rfl,rfl,rfl,rfl,by simp[up,I],trivial⟩
  have h5:=of_decide_eq_true h5
  have hlt5:i<n:=by omega
  refine G.skip ?_
  refine G.seq ?_
  refine G.block ?_
  refine G.seqR tfine rfl trivial ?_
  refine G.seqR tfine rfl ⟨by omega,trivial⟩ ?_
  refine G.cond (b:=bitC s i) rfl (fun h6=>?_) (fun h6=>?_)
  · rw[bitC_eq s i (by omega) (by omega)]at h6
    have e:setN s (i+1)=setN s i++[(i:Int)]:=by rw[setN,if_pos h6]
    refine G.region_lit ?_
    refine GO.moveAny tfine rfl (.inl rfl) rfl rfl rfl ?_
    refine GO.more tfine rfl trivial ?_
    refine GO.appendAccB (n:=(setN s i).length) (c:=cp) (el:=elI (setN s i)) [I i] [(0,.v (.c (.k (.func (.yield l) #[] #[])))),(1,.v (.c (.k (Pt b1)))),(2,.v (.c (.k (Pt b2)))),(8,.v (.c (.k (I (2 ^ n:Nat))))),(9,.v (.c (.k (I s)))),(4,.v (.c (.k (I s)))),(17,.v (.c (.k (I n)))),(18,.v (.c (.k (I i))))] [(1,.say S1 R1),(2,.say Z (J (chooseN n k s) Z))] apT35 rfl rfl rfl rfl rfl rfl rfl rfl rfl rfl (fun u hu=>by simp at hu;subst hu;rfl)
      (St.le_of rfl ⟨⟨_,rfl,Blk.le_refl _⟩,⟨_,rfl,Blk.le_refl _⟩,trivial⟩ ⟨rfl,rfl,rfl,rfl,rfl,rfl,rfl,rfl,trivial⟩) (subM.fr ⟨rfl,nx rfl,rfl,nx rfl,trivial⟩) (fun k hk=>rfl) (by unfold maxLen;omega) (by omega) fun c' hc'=>?_
    refine GO.fin tfine rfl trivial ?_
    refine G.reg tfine rfl trivial ?_
    rw[IntWalk.i64_in ((i:Int)+1) (by omega)]
    refine⟨(i+1,c'),⟨by simp only;omega,by simp only[e,List.length_append,List.length_cons,List.length_nil];exact hc'⟩,(by show n-(i+1)<n-i;omega),?_⟩
    simp only[e,List.length_append,List.length_cons,List.length_nil]
    exact St.le_of rfl ⟨⟨_,rfl,Blk.le_refl _⟩,⟨_,rfl,Blk.le_refl _⟩,⟨_,rfl,rfl,rfl,Nat.le_refl _,fun j hj=>(elI_snoc _ _ j hj).symm,Nat.le_refl _⟩,trivial⟩ ⟨rfl,rfl,rfl,rfl,rfl,rfl,rfl,rfl,by simp[up,I],trivial⟩
  rw[bitC_eq s i (by omega) (by omega)]at h6
  have e:setN s (i+1)=setN s i:=by rw[setN,if_neg (by simpa using h6)]
  refine G.skip ?_
  refine G.reg tfine rfl trivial ?_
  rw[IntWalk.i64_in ((i:Int)+1) (by omega)]
  refine⟨(i+1,cp),⟨by simp only;omega,by simp only[e];exact hcp⟩,(by show n-(i+1)<n-i;omega),?_⟩
  simp only[e]
  exact St.le_of (by generalize setN s i=q;cases q<;>rfl) ⟨⟨_,rfl,Blk.le_refl _⟩,⟨_,rfl,Blk.le_refl _⟩,⟨_,rfl,Blk.le_refl _⟩,trivial⟩ ⟨rfl,rfl,rfl,rfl,rfl,rfl,rfl,rfl,by simp[up,I],trivial⟩
end Go.Proofs.Ytafhnfcahhlanaa
namespace Go.Proofs.Ytafhnfcahhlanaa
open Go.Sx Go.RowKit
theorem apLL:ApT Try.prog 23 22 1 24 (.slice none 0 0):=⟨by kernel_rfl,by kernel_rfl,rfl,by decide⟩
theorem apCo:ApT Try.prog 59 95 2 32 (.agg #[.slice none 0 0,I 0]):=⟨by kernel_rfl,by kernel_rfl,rfl,by decide⟩
theorem choices_any (lo:Nat) (n k:Int) (w:World) (hlo:lo≤w.heap.size):Calls Try.prog 75 #[I n,I k] w fun e w'=>Box2 94 (I n) (I k) 3 3 lo w w' e:=by
  refine enterSay [] [.c (.k (I n)),.c (.k (I k))] [] Try.func75 rfl 6 Try.ntmps75 rfl rfl ⟨trivial,trivial,trivial⟩ trivial ?_
  refine G.seqR tfine rfl trivial ?_
  refine G.seqR tfine rfl trivial ?_
  exact G.ret (retBox2 tfine rfl rfl rfl rfl hlo)
theorem corners_any (lo:Nat) (lv:Value) (hlv:∃A n c,lv=.slice A n c) (n:Int) (w:World) (hlo:lo≤w.heap.size):Calls Try.prog 33 #[lv,I n] w fun e w'=>Box2 74 lv (I n) 59 3 lo w w' e:=by
  obtain⟨A,m,c,rfl⟩:=hlv
  refine enterSay [] [.c (.k (.slice A m c)),.c (.k (I n))] [] Try.func33 rfl 6 Try.ntmps33 rfl rfl ⟨trivial,trivial,trivial⟩ trivial ?_
  refine G.seqR tfine rfl trivial ?_
  refine G.seqR tfine rfl trivial ?_
  exact G.ret (retBox2 tfine rfl rfl rfl rfl hlo)
theorem rays_any (lo:Nat) (lv:Value) (hlv:∃A n c,lv=.slice A n c) (n:Int) (w:World) (hlo:lo≤w.heap.size):Calls Try.prog 36 #[lv,I n] w fun e w'=>Box2 81 lv (I n) 59 3 lo w w' e:=by
  obtain⟨A,m,c,rfl⟩:=hlv
  refine enterSay [] [.c (.k (.slice A m c)),.c (.k (I n))] [] Try.func36 rfl 6 Try.ntmps36 rfl rfl ⟨trivial,trivial,trivial⟩ trivial ?_
  refine G.seqR tfine rfl trivial ?_
  refine G.seqR tfine rfl trivial ?_
  exact G.ret (retBox2 tfine rfl rfl rfl rfl hlo)
def plV (n:Nat) (g:Option Addr×Nat):Value:=.slice g.1 n g.2
theorem places_any (n:Nat) (w:World) (hn:n≤1000000):Calls Try.prog 77 #[I n] w fun e w'=>∃g:Option Addr×Nat,e=.returned (plV n g)∧Below w.heap.size w w'∧RdV w' (plV n g) n 1 (elI (placesL n))∧(∀k,sb (plV n g) k→w.heap.size≤k∧k<w'.heap.size)∧Steady (sb (plV n g)) (fun w=>RdV w (plV n g) n 1 (elI (placesL n))):=by
  rcases n with _|n
  · refine (places0_any w).mono ?_
    rintro e w' ⟨rfl,hb⟩
    exact⟨(none,0),rfl,hb,⟨_,_,rfl,RdRow.nil _ _ _ _,fun h=>absurd h (Nat.lt_irrefl 0)⟩,fun k hk=>absurd hk.1 (Nat.lt_irrefl 0),steady_rdv⟩
  · refine (placesC_any (n+1) w (Nat.succ_pos _) hn).mono ?_
    rintro e w' ⟨⟨b,c,rfl,h1,h2,h3⟩,hb⟩
    refine⟨(some ⟨b,0,none⟩,c),rfl,hb,⟨_,_,rfl,fun _=>⟨b,0,rfl,h3.rd⟩,fun _=>h1⟩,?_,steady_rdv⟩
    rintro k ⟨_,a,e,rfl⟩
    cases e
    refine⟨h2,?_⟩
    exact h3.rd.1
def rowsM (L:List Cond) (set:List Int):List (List Int):=set.map fun i=>(cAt L i.toNat).1++[(cAt L i.toNat).2]
def overM (L:List Cond) (n:Nat) (set:List Int):Int:=detC (rowsM L set) (placesL n)
def numM (rows:List (List Int)) (n:Nat) (q:Int) (k:Nat):Int:=W (detC rows ((placesL n).set k (n:Int))*q)
def numsM (rows:List (List Int)) (n:Nat) (q:Int):List Int:=(List.range n).map (numM rows n q)
abbrev Rat:=List Int×Int
def cornN (L:List Cond) (n:Nat) (set:List Int):List Int:=numsM (rowsM L set) n (W ((absW (overM L n set)).tdiv (overM L n set)))
def cornerM (L:List Cond) (n:Nat) (set:List Int):Option Rat:=
  if overM L n set=0 then none
  else if keepsM L (cornN L n set) (absW (overM L n set))=true then some (lowL (cornN L n set) (absW (overM L n set)),lowO (cornN L n set) (absW (overM L n set)))
  else none
def cornersM (L:List Cond) (n:Nat):List Rat:=(chooseM L.length n).filterMap (cornerM L n)
def RelR (lo:Nat) (x:Rat) (w:World) (v:Value):Prop:=(∃nv,v=.agg #[nv,I x.2]∧IntsAt w nv x.1)∧∀k,vbk v k→lo≤k
def RelL (lo:Nat) (x:List Int) (w:World) (v:Value):Prop:=IntsAt w v x∧∀k,vbk v k→lo≤k
theorem steady_ints {v:Value} {l:List Int}:Steady (sb v) (fun w=>IntsAt w v l):=by
  rintro w1 w2 h1 h2 ⟨A,c,rfl,h3,h4⟩
  exact⟨A,c,rfl,steady_row (cap:=c) w1 w2 h1 h2 h3,h4⟩
theorem IntsAt.of {w:World} {v:Value} {l:List Int} {el:Nat→List Value} {n:Nat} (h:RdV w v n 1 el) (hn:n=l.length) (he:∀i,i<l.length→el i=elI l i):IntsAt w v l:=by
  subst hn
  obtain⟨A,c,rfl,h1,h2⟩:=h
  exact⟨A,c,rfl,h1.congr fun i hi=>(he i hi).symm,h2⟩
def bodyR:Code→Code
  |.rangeFunc _ _ _ b=>b
  |.block _ c=>bodyR c
  |.seq _ y=>bodyR y
  |c=>c
end Go.Proofs.Ytafhnfcahhlanaa
set_option maxHeartbeats 2000000
namespace Go.Proofs.Ytafhnfcahhlanaa
open Go.Sx Go.RowKit
noncomputable def body74:Code:=bodyR (Try.f74.body.getD .skip)
def roundK {α:Type} (w:World) (S2:Nat→Prop) (R2:World→Prop) (J:List α→(Nat→Prop)→World→Prop) (s:List α) (Z:Nat→Prop):Exit→St→Prop:=fun e st=>e=.normal∧∃Zn,st.m 2=some (.say Zn (J s Zn))∧(∀k,Zn k→Z k∨w.heap.size≤k)∧st.m 1=some (.say S2 R2)
theorem rowsM_len (L:List Cond) (set:List Int):(rowsM L set).length=set.length:=by simp[rowsM]
theorem rowsM_get (L:List Cond) (set:List Int) (i:Nat) (h:i<set.length):(rowsM L set).getD i []=(cAt L (set.getD i 0).toNat).1++[(cAt L (set.getD i 0).toNat).2]:=by
  simp[rowsM,List.getD_eq_getElem?_getD,List.getElem?_eq_getElem h]
theorem cAt_mem {L:List Cond} {i:Nat} (h:i<L.length):cAt L i∈L:=by
  simp[cAt,List.getD_eq_getElem?_getD,List.getElem?_eq_getElem h]
theorem rowsM_rows (L:List Cond) (n:Nat) (set:List Int) (hrow:∀c∈L,c.1.length=n) (hset:∀x∈set,0≤x∧x<L.length):∀r∈rowsM L set,r.length=n+1:=by
  intro r hr
  obtain⟨x,hx,rfl⟩:=List.mem_map.1 hr
  have:=hset x hx
  have h2:=hrow _ (cAt_mem (L:=L) (i:=x.toNat) (by omega))
  rw[List.length_append,h2];rfl
theorem mem_placesL {n:Nat} {c:Int} (h:c∈placesL n):0≤c∧c<n:=by
  simp only[placesL,List.mem_map,List.mem_range]at h
  obtain⟨k,hk,rfl⟩:=h
  omega
theorem matM {L:List Cond} {set:List Int} {A:Option Addr} {rc:Nat} {us:Nat→Value} {w:World} (h1:RdRow w A set.length 1 (fun j=>[us j])) (h2:∀j,j<set.length→IntsAt w (us j) ((rowsM L set).getD j [])) (hc:set.length≤rc):MatAt w (.slice A set.length rc) (rowsM L set) us:=
  ⟨A,rc,by rw[rowsM_len],by rw[rowsM_len];exact h1,fun _=>by rw[rowsM_len];exact hc,fun i hi=>h2 i (by rw[rowsM_len]at hi;exact hi)⟩
theorem detR (L:List Cond) (n:Nat) (set cols:List Int) (A C:Option Addr) (rc cc:Nat) (us:Nat→Value) (w:World) (h1:RdRow w A set.length 1 (fun j=>[us j])) (h2:∀j,j<set.length→IntsAt w (us j) ((rowsM L set).getD j [])) (hc:set.length≤rc) (hC:RdRow w C n 1 (elI cols)) (hcl:cols.length=n) (hlen:set.length=n) (hn:n≤8)
    (hin:∀c∈cols,0≤c∧c≤n) (hr:∀r∈rowsM L set,r.length=n+1):
    Calls Try.prog 76 #[.slice A set.length rc,.slice C n cc] w fun e w'=>e=.returned (I (detC (rowsM L set) cols))∧Below w.heap.size w w':=by
  have:=det_any (rowsM L set) cols (.slice A set.length rc) us C cc w (matM h1 h2 hc) (by rw[hcl];exact hC) (by rw[hcl,rowsM_len];omega) (by rw[rowsM_len];omega) (fun c hc=>⟨(hin c hc).1,fun r hr'=>by have:=hr r hr';have:=(hin c hc).2;omega⟩) (fun r hr'=>by have:=hr r hr';omega)
  rw[hcl]at this
  exact this
theorem numsM_len (rows:List (List Int)) (n:Nat) (q:Int):(numsM rows n q).length=n:=by simp[numsM]
theorem numsM_take (rows:List (List Int)) (n:Nat) (q:Int) (k:Nat) (h:k<n):(numsM rows n q).take (k+1)=(numsM rows n q).take k++[numM rows n q k]:=by
  rw[List.take_succ_eq_append_getElem (by rw[numsM_len];exact h)]
  congr 2
  simp[numsM]
theorem numsM_snoc (rows:List (List Int)) (n:Nat) (q:Int) (k:Nat) (h:k<n):∀j,j<k+1→elI ((numsM rows n q).take (k+1)) j=elN (elI ((numsM rows n q).take k)) k [I (numM rows n q k)] j:=fun j hj=>by
  have hl:((numsM rows n q).take k).length=k:=by rw[List.length_take,numsM_len];omega
  have:=elI_snoc ((numsM rows n q).take k) (numM rows n q k) j (by rw[hl];exact hj)
  rw[hl]at this
  rw[numsM_take rows n q k h,this]
theorem elI_set (l:List Int) (k:Nat) (v:Int) (j:Nat) (hj:j<l.length):elI (l.set k v) j=if j=k then [I v] else elI l j:=by
  simp only[elI,List.getD_eq_getElem?_getD,List.getElem?_set]
  by_cases e:k=j
  · subst e;simp[hj]
  · rw[if_neg e,if_neg (Ne.symm e)]
theorem set_in {n k:Nat}:∀c∈(placesL n).set k (n:Int),0≤c∧c≤n:=by
  intro c hc
  rcases List.mem_or_eq_of_mem_set hc with h|h
  · have:=mem_placesL h;omega
  · omega
theorem corner_round (L:List Cond) (AL A5:Option Addr) (cL c5:Nat) (vs:Nat→Value) (n b1 b2 g3 l0 l lo:Nat) (W2:World) (T:List Nat) (J:List Rat→(Nat→Prop)→World→Prop) (s:List Rat) (Z S2:Nat→Prop) (R2:World→Prop) (set:List Int)
    (hb1:∀w,R2 w→w.heap[b1]?=some (.cells #[.slice AL L.length cL] 59 (0,0))) (hb2:∀w,R2 w→w.heap[b2]?=some (.cells #[I n] 3 (0,0))) (hg3:∀w,R2 w→w.heap[g3]?=some (.cells #[.func (.yield l0) #[] #[]] 79 (0,0)))
    (hcon:∀w,R2 w→ConsAt w (.slice AL L.length cL) L vs) (hSL:∀k,sb (.slice AL L.length cL) k→S2 k) (hTs:∀k∈T,¬S2 k) (hT5:∀k∈T,¬sb (.slice A5 set.length c5) k) (hTW:∀k∈T,k<W2.heap.size)
    (hRd:Rounds Try.prog l0 T (RelR lo) (cornersM L n) J W2) (hlo:lo≤W2.heap.size) (hL:L.length≤8) (hn:n≤8) (hrow:∀c∈L,c.1.length=n) (hlen:set.length=n) (hin:∀x∈set,0≤x∧x<L.length) (hmem:set∈chooseM L.length n)
    (hg:overM L n set≠0→keepsM L (cornN L n set) (absW (overM L n set))=true→gL (cornN L n set) (absW (overM L n set))≠0):
    G Try.prog ⟨W2,borT 1000 T,88,some l,[]⟩ (roundK W2 S2 R2 J (s++(cornerM L n set).toList) Z) body74
      (St.of [(1,.v (.c (.k (Pt b1)))),(2,.v (.c (.k (Pt b2)))),(3,.v (.c (.k (Pt g3)))),(4,.v (.c (.k (.slice A5 set.length c5))))] [(1,.say S2 R2),(2,.say Z (J s Z)),(5,.say (sb (.slice A5 set.length c5)) (fun w=>IntsAt w (.slice A5 set.length c5) set))]):=by
  refine G.block (id:=1) ?_
  refine G.seqR tfine rfl trivial ?_
  refine G.seq ?_
  refine G.seqR tfine rfl trivial ?_
  refine G.openSay (el:=elI set) (sz:=1) 5 702 17 rfl (fun w h=>by obtain⟨A',c',e,h1,_⟩:=h;cases e;exact h1) (fun k hk=>hk) rfl rfl rfl ?_
  refine G.newNil 838 1 (fun _=>[undef]) rfl ?_
  refine G.tellF 839 (fun w=>∀j,j<0→IntsAt w undef ((rowsM L set).getD j [])) (fun w j hj=>by omega) rfl ?_
  refine G.block (G.loop (fun z:Nat×Nat×(Nat→Value)×(Nat→Prop)=>St.of [(1,.v (.c (.k (Pt b1)))),(2,.v (.c (.k (Pt b2)))),(3,.v (.c (.k (Pt g3)))),(5,.v (.c (accV 838 1 z.1 z.2.1))),(17,.v (.c (.inp 702 A5 set.length c5))),(18,.v (.c (.k (I set.length)))),(19,.v (.c (.k (I z.1))))]
      [(1,.say S2 R2),(2,.say Z (J s Z)),(702,.ro 1 set.length (elI set)),(838,accB 22 1 z.1 z.2.1 (fun j=>[z.2.2.1 j])),(839,.say z.2.2.2 (fun w=>∀j,j<z.1→IntsAt w (z.2.2.1 j) ((rowsM L set).getD j [])))])
    (fun z=>z.1≤set.length∧z.1≤z.2.1) (fun z=>set.length-z.1) (0,0,(fun _=>undef),fun _=>False) ⟨Nat.zero_le _,Nat.le_refl _⟩ (St.le_of rfl ⟨⟨_,rfl,Blk.le_refl _⟩,⟨_,rfl,Blk.le_refl _⟩,⟨_,rfl,Blk.le_refl _⟩,⟨_,rfl,Blk.le_refl _⟩,⟨_,rfl,Blk.le_refl _⟩,trivial⟩ ⟨rfl,rfl,rfl,rfl,rfl,rfl,rfl,trivial⟩) ?_)
  rintro⟨i,cp,us,SR⟩ ⟨hi,hcp⟩
  simp only at hi hcp
  refine G.seqR tfine rfl trivial ?_
  refine G.seq ?_
  refine G.cond (b:=decide ((i:Int)<(set.length:Int))) rfl (fun h2=>?_) (fun h2=>?_)
  · have h2:=of_decide_eq_true h2
    have hlt:i<set.length:=by omega
    have hn1:1≤n:=by omega
    refine G.skip ?_
    refine G.seq ?_
    refine G.block ?_
    refine G.seqR tfine rfl ⟨by omega,by omega,by omega,trivial⟩ ?_
    rw[Int.toNat_natCast]
    obtain⟨x,hx⟩:∃x,x=set.getD i 0:=⟨_,rfl⟩
    have hxm:x∈set:=by rw[hx,List.getD_eq_getElem?_getD,List.getElem?_eq_getElem hlt];exact List.getElem_mem hlt
    obtain⟨q,hq⟩:∃q:Nat,x=(q:Int):=⟨x.toNat,by have:=hin x hxm;omega⟩
    have hql:q<L.length:=by have:=hin x hxm;omega
    have hrq:(rowsM L set).getD i []=(cAt L q).1++[(cAt L q).2]:=by rw[rowsM_get L set i hlt,←hx,hq];rfl
    have hcq:(cAt L q).1.length=n:=hrow _ (cAt_mem hql)
    rw[←hx,hq]
    rcases i with _|i
    · apply G.drawC (ch:=fun j=>match j with|6=>some (ownF 729 3 n 1 (elI (cAt L q).1))|13=>some (conS 729 36 (n+1) 1 (elN (elI (cAt L q).1) n [I (cAt L q).2]))|15=>some (accS 838 38 39 0 1 22 (fun j=>[us j]) (n+1) 1 (elN (elI (cAt L q).1) n [I (cAt L q).2]))|_=>none)
        (cls:=[0,0,0,6,14,30,62,0,0,384,896,1920,3968,8190,16382,32767,65535]) (X:=[(1,721),(6,729),(7,722),(13,36),(13,729),(15,38),(15,838),(15,39)]) hmix rfl rfl rfl
      · intro c
        refine GC.more tfine 0 rfl rfl rfl trivial ?_
        refine GC.step 1 rfl rfl (Steps.loadOpen tfine 1 721 AL L.length cL 2 (elC L vs) rfl rfl rfl rfl rfl rfl hb1 rfl rfl rfl (fun w h=>by obtain⟨A',c',e,h1,_⟩:=hcon w h;cases e;exact h1) hSL rfl rfl) rfl ?_
        refine GC.more tfine 2 rfl rfl rfl ⟨by omega,by omega,by omega,trivial⟩ ?_
        rw[Int.toNat_natCast]
        refine GC.choice 6 rfl _ rfl (StepsC.callOwn 729 3 n 1 (elI (cAt L q).1) rfl rfl rfl rfl rfl rfl (fun args w=>Try.call26 args w) (fun m' hle ρ w hs hok=>?_)) rfl ownF_nm rfl ?_
        · obtain⟨A1,c1,e1,h1,h2⟩:=hcon w (hs.ok 1 _ (hle.at rfl)).1
          obtain⟨A2,c2,e2,h3,_⟩:=h2.2 q hql
          show Calls Try.prog _ #[vs q] w _
          rw[e2]
          have:=cloneC_any A2 c2 (cAt L q).1 w h3 (by omega) (by omega)
          rw[hcq]at this ⊢
          exact this
        refine GC.step 7 rfl rfl (Steps.loadOpen tfine 1 722 AL L.length cL 2 (elC L vs) rfl rfl rfl rfl rfl rfl hb1 rfl rfl rfl (fun w h=>by obtain⟨A',c',e,h1,_⟩:=hcon w h;cases e;exact h1) hSL rfl rfl) rfl ?_
        refine GC.more tfine 8 rfl rfl rfl ⟨by omega,by omega,by omega,trivial⟩ ?_
        rw[Int.toNat_natCast]
        refine GC.choice 13 rfl _ rfl (StepsC.appendConS (c:=capN n (c 6)) (room:=(capN n (c 6)-n)*1) [I (cAt L q).2] apT35 rfl rfl rfl rfl rfl rfl rfl rfl (Nat.le_refl _) rfl rfl rfl rfl (fun u hu=>by simp at hu;subst hu;rfl) (fun k hk=>rfl) (by unfold maxLen;omega) (by omega)) rfl conS_nm rfl ?_
        refine GC.more tfine 14 rfl rfl rfl trivial ?_
        refine GC.choice 15 rfl _ rfl (StepsC.appendAccS (n:=0) (c:=cp) 36 39 (c 13) apLL rfl rfl rfl rfl rfl rfl rfl rfl rfl rfl rfl rfl rfl (fun k hk=>rfl) (by unfold maxLen;omega) (by omega) rfl rfl rfl rfl rfl rfl) rfl accS_nm rfl ?_
        refine GC.more tfine 16 rfl rfl rfl trivial ?_
        refine GC.nil ?_
        obtain⟨v,hv⟩:∃v,v=slV (n+1) (pr2 (c 15)):=⟨_,rfl⟩
        obtain⟨cp2,hcp2⟩:∃cp2,cp2=capN (0+1) (pr1 (c 15)):=⟨_,rfl⟩
        have hcl:0+1≤cp2:=by rw[hcp2];exact capN_le _ _
        refine G.weaken (st':=St.of [(1,.v (.c (.k (Pt b1)))),(2,.v (.c (.k (Pt b2)))),(3,.v (.c (.k (Pt g3)))),(5,.v (.c (.slc 38 0 1 (0+1) cp2))),(17,.v (.c (.inp 702 A5 set.length c5))),(18,.v (.c (.k (I set.length)))),(19,.v (.c (.k (I (0:Nat)))))]
            [(1,.say S2 R2),(2,.say Z (J s Z)),(702,.ro 1 set.length (elI set)),(38,.arr 22 1 (0+1) (elN (fun j=>[us j]) 0 [v]) ((cp2-(0+1))*1)),(839,.say SR (fun w=>∀j,j<0→IntsAt w (us j) ((rowsM L set).getD j []))),(39,.say (sb v) (fun w=>RdV w v (n+1) 1 (elN (elI (cAt L q).1) n [I (cAt L q).2])))])
          (St.le_of rfl ⟨⟨_,rfl,Blk.le_refl _⟩,⟨_,rfl,Blk.le_refl _⟩,⟨_,rfl,Blk.le_refl _⟩,⟨_,rfl,by rw[hv,hcp2];exact Blk.le_refl _⟩,⟨_,rfl,Blk.le_refl _⟩,⟨_,rfl,by rw[hv];exact Blk.le_refl _⟩,trivial⟩ ⟨rfl,rfl,rfl,by rw[hcp2];rfl,rfl,rfl,rfl,trivial⟩) ?_
        clear hv hcp2
        obtain⟨us',hus⟩:∃us':Nat→Value,us'=fun j=>if j=0 then v else us j:=⟨_,rfl⟩
        have hso:∀j,j<0→us' j=us j:=fun j hj=>by rw[hus];simp only;rw[if_neg (by omega)]
        have hsn:us' 0=v:=by rw[hus];simp
        refine G.bothS 839 839 39 (fun k=>SR k∨sb v k) (fun w=>∀j,j<0+1→IntsAt w (us' j) ((rowsM L set).getD j [])) rfl rfl (fun k hk=>hk) (fun s1 s2 w1 w2 a1 a2 a3 j hj=>?_) (fun w ha hb j hj=>?_) (fun b hb=>⟨_,_,(Option.some.inj hb).symm⟩) ?_
        · by_cases e:j=0
          · subst e
            have h3:=a3 0 hj
            rw[hsn]at h3 ⊢
            exact steady_ints w1 w2 (fun k hk=>a1 k (.inr hk)) a2 h3
          · have h3:=s1 w1 w2 (fun k hk=>a1 k (.inl hk)) a2 (fun j' hj'=>by have:=a3 j' (by omega);rwa [hso j' hj']at this) j (by omega)
            rw[hso j (by omega)]
            exact h3
        · by_cases e:j=0
          · subst e
            rw[hsn,hrq]
            exact IntsAt.of hb (by rw[List.length_append,hcq];rfl) (fun i' hi'=>by
              have:=elI_snoc (cAt L q).1 (cAt L q).2 i' (by rw[List.length_append]at hi';exact hi')
              rw[hcq]at this
              rw[this])
          · rw[hso j (by omega)]
            exact ha j (by omega)
        refine G.rn 38 838 rfl trivial rfl rfl rfl ?_
        refine G.reg tfine rfl trivial ?_
        refine⟨(0+1,cp2,us',fun k=>SR k∨sb v k),⟨by simp only;omega,hcl⟩,(by show set.length-(0+1)<set.length-0;omega),?_⟩
        exact St.le_of rfl ⟨⟨_,rfl,Blk.le_refl _⟩,⟨_,rfl,Blk.le_refl _⟩,⟨_,rfl,Blk.le_refl _⟩,⟨_,rfl,rfl,rfl,Nat.le_refl _,(fun j hj=>by
          have hj:j<0+1:=hj
          show [us' j]=elN (fun j=>[us j]) 0 [v] j
          by_cases e:j=0
          · subst e;rw[elN_eq,hsn]
          · rw[elN_lt (by omega),hso j (by omega)]),Nat.le_refl _⟩,⟨_,rfl,Blk.le_refl _⟩,trivial⟩ ⟨rfl,rfl,rfl,rfl,rfl,rfl,by first|rfl|(simp[up,I,rnS,rnTV,rnAV,rnAC];rw[IntWalk.i64_in _ (by omega)]),trivial⟩
      ·
        intro c c' j hj h
        have hj:j<17:=hj
        rcases j with _|_|_|_|_|_|_|_|_|_|_|_|_|_|_|_|_|j
        all_goals first|rfl|(show some _=some _;(try rw[h 6 (.inl rfl)]);(try rw[h 6 (.inr ⟨rfl,rfl⟩)]);(try rw[h 13 (.inl rfl)]);(try rw[h 13 (.inr ⟨rfl,rfl⟩)]);(try rw[h 15 (.inl rfl)]);(try rw[h 15 (.inr ⟨rfl,rfl⟩)]);done)|exact absurd hj (by omega)
    · apply G.drawC (ch:=fun j=>match j with|6=>some (ownF 729 3 n 1 (elI (cAt L q).1))|13=>some (conS 729 36 (n+1) 1 (elN (elI (cAt L q).1) n [I (cAt L q).2]))|15=>some (accS 838 38 39 (i+1) 1 22 (fun j=>[us j]) (n+1) 1 (elN (elI (cAt L q).1) n [I (cAt L q).2]))|_=>none)
        (cls:=[0,0,0,6,14,30,62,0,0,384,896,1920,3968,8190,16382,32767,65535]) (X:=[(1,721),(6,729),(7,722),(13,36),(13,729),(15,38),(15,838),(15,39)]) hmix rfl rfl rfl
      · intro c
        refine GC.more tfine 0 rfl rfl rfl trivial ?_
        refine GC.step 1 rfl rfl (Steps.loadOpen tfine 1 721 AL L.length cL 2 (elC L vs) rfl rfl rfl rfl rfl rfl hb1 rfl rfl rfl (fun w h=>by obtain⟨A',c',e,h1,_⟩:=hcon w h;cases e;exact h1) hSL rfl rfl) rfl ?_
        refine GC.more tfine 2 rfl rfl rfl ⟨by omega,by omega,by omega,trivial⟩ ?_
        rw[Int.toNat_natCast]
        refine GC.choice 6 rfl _ rfl (StepsC.callOwn 729 3 n 1 (elI (cAt L q).1) rfl rfl rfl rfl rfl rfl (fun args w=>Try.call26 args w) (fun m' hle ρ w hs hok=>?_)) rfl ownF_nm rfl ?_
        · obtain⟨A1,c1,e1,h1,h2⟩:=hcon w (hs.ok 1 _ (hle.at rfl)).1
          obtain⟨A2,c2,e2,h3,_⟩:=h2.2 q hql
          show Calls Try.prog _ #[vs q] w _
          rw[e2]
          have:=cloneC_any A2 c2 (cAt L q).1 w h3 (by omega) (by omega)
          rw[hcq]at this ⊢
          exact this
        refine GC.step 7 rfl rfl (Steps.loadOpen tfine 1 722 AL L.length cL 2 (elC L vs) rfl rfl rfl rfl rfl rfl hb1 rfl rfl rfl (fun w h=>by obtain⟨A',c',e,h1,_⟩:=hcon w h;cases e;exact h1) hSL rfl rfl) rfl ?_
        refine GC.more tfine 8 rfl rfl rfl ⟨by omega,by omega,by omega,trivial⟩ ?_
        rw[Int.toNat_natCast]
        refine GC.choice 13 rfl _ rfl (StepsC.appendConS (c:=capN n (c 6)) (room:=(capN n (c 6)-n)*1) [I (cAt L q).2] apT35 rfl rfl rfl rfl rfl rfl rfl rfl (Nat.le_refl _) rfl rfl rfl rfl (fun u hu=>by simp at hu;subst hu;rfl) (fun k hk=>rfl) (by unfold maxLen;omega) (by omega)) rfl conS_nm rfl ?_
        refine GC.more tfine 14 rfl rfl rfl trivial ?_
        refine GC.choice 15 rfl _ rfl (StepsC.appendAccS (n:=(i+1)) (c:=cp) 36 39 (c 13) apLL rfl rfl rfl rfl rfl rfl rfl rfl rfl rfl rfl rfl rfl (fun k hk=>rfl) (by unfold maxLen;omega) (by omega) rfl rfl rfl rfl rfl rfl) rfl accS_nm rfl ?_
        refine GC.more tfine 16 rfl rfl rfl trivial ?_
        refine GC.nil ?_
        obtain⟨v,hv⟩:∃v,v=slV (n+1) (pr2 (c 15)):=⟨_,rfl⟩
        obtain⟨cp2,hcp2⟩:∃cp2,cp2=capN ((i+1)+1) (pr1 (c 15)):=⟨_,rfl⟩
        have hcl:(i+1)+1≤cp2:=by rw[hcp2];exact capN_le _ _
        refine G.weaken (st':=St.of [(1,.v (.c (.k (Pt b1)))),(2,.v (.c (.k (Pt b2)))),(3,.v (.c (.k (Pt g3)))),(5,.v (.c (.slc 38 0 1 ((i+1)+1) cp2))),(17,.v (.c (.inp 702 A5 set.length c5))),(18,.v (.c (.k (I set.length)))),(19,.v (.c (.k (I ((i+1):Nat)))))]
            [(1,.say S2 R2),(2,.say Z (J s Z)),(702,.ro 1 set.length (elI set)),(38,.arr 22 1 ((i+1)+1) (elN (fun j=>[us j]) (i+1) [v]) ((cp2-((i+1)+1))*1)),(839,.say SR (fun w=>∀j,j<(i+1)→IntsAt w (us j) ((rowsM L set).getD j []))),(39,.say (sb v) (fun w=>RdV w v (n+1) 1 (elN (elI (cAt L q).1) n [I (cAt L q).2])))])
          (St.le_of rfl ⟨⟨_,rfl,Blk.le_refl _⟩,⟨_,rfl,Blk.le_refl _⟩,⟨_,rfl,Blk.le_refl _⟩,⟨_,rfl,by rw[hv,hcp2];exact Blk.le_refl _⟩,⟨_,rfl,Blk.le_refl _⟩,⟨_,rfl,by rw[hv];exact Blk.le_refl _⟩,trivial⟩ ⟨rfl,rfl,rfl,by rw[hcp2];rfl,rfl,rfl,rfl,trivial⟩) ?_
        clear hv hcp2
        obtain⟨us',hus⟩:∃us':Nat→Value,us'=fun j=>if j=(i+1) then v else us j:=⟨_,rfl⟩
        have hso:∀j,j<(i+1)→us' j=us j:=fun j hj=>by rw[hus];simp only;rw[if_neg (by omega)]
        have hsn:us' (i+1)=v:=by rw[hus];simp
        refine G.bothS 839 839 39 (fun k=>SR k∨sb v k) (fun w=>∀j,j<(i+1)+1→IntsAt w (us' j) ((rowsM L set).getD j [])) rfl rfl (fun k hk=>hk) (fun s1 s2 w1 w2 a1 a2 a3 j hj=>?_) (fun w ha hb j hj=>?_) (fun b hb=>⟨_,_,(Option.some.inj hb).symm⟩) ?_
        · by_cases e:j=(i+1)
          · subst e
            have h3:=a3 (i+1) hj
            rw[hsn]at h3 ⊢
            exact steady_ints w1 w2 (fun k hk=>a1 k (.inr hk)) a2 h3
          · have h3:=s1 w1 w2 (fun k hk=>a1 k (.inl hk)) a2 (fun j' hj'=>by have:=a3 j' (by omega);rwa [hso j' hj']at this) j (by omega)
            rw[hso j (by omega)]
            exact h3
        · by_cases e:j=(i+1)
          · subst e
            rw[hsn,hrq]
            exact IntsAt.of hb (by rw[List.length_append,hcq];rfl) (fun i' hi'=>by
              have:=elI_snoc (cAt L q).1 (cAt L q).2 i' (by rw[List.length_append]at hi';exact hi')
              rw[hcq]at this
              rw[this])
          · rw[hso j (by omega)]
            exact ha j (by omega)
        refine G.rn 38 838 rfl trivial rfl rfl rfl ?_
        refine G.reg tfine rfl trivial ?_
        refine⟨((i+1)+1,cp2,us',fun k=>SR k∨sb v k),⟨by simp only;omega,hcl⟩,(by show set.length-((i+1)+1)<set.length-(i+1);omega),?_⟩
        exact St.le_of rfl ⟨⟨_,rfl,Blk.le_refl _⟩,⟨_,rfl,Blk.le_refl _⟩,⟨_,rfl,Blk.le_refl _⟩,⟨_,rfl,rfl,rfl,Nat.le_refl _,(fun j hj=>by
          have hj:j<(i+1)+1:=hj
          show [us' j]=elN (fun j=>[us j]) (i+1) [v] j
          by_cases e:j=(i+1)
          · subst e;rw[elN_eq,hsn]
          · rw[elN_lt (by omega),hso j (by omega)]),Nat.le_refl _⟩,⟨_,rfl,Blk.le_refl _⟩,trivial⟩ ⟨rfl,rfl,rfl,rfl,rfl,rfl,by first|rfl|(simp[up,I,rnS,rnTV,rnAV,rnAC];rw[IntWalk.i64_in _ (by omega)]),trivial⟩
      ·
        intro c c' j hj h
        have hj:j<17:=hj
        rcases j with _|_|_|_|_|_|_|_|_|_|_|_|_|_|_|_|_|j
        all_goals first|rfl|(show some _=some _;(try rw[h 6 (.inl rfl)]);(try rw[h 6 (.inr ⟨rfl,rfl⟩)]);(try rw[h 13 (.inl rfl)]);(try rw[h 13 (.inr ⟨rfl,rfl⟩)]);(try rw[h 15 (.inl rfl)]);(try rw[h 15 (.inr ⟨rfl,rfl⟩)]);done)|exact absurd hj (by omega)
  · have h2:=of_decide_eq_false h2
    have:i=set.length:=by omega
    subst this
    refine G.exit ?_
    clear hi h2
    refine G.freezeAcc (n:=set.length) (c:=cp) 838 5 rfl rfl fun A hA=>?_
    obtain⟨rc,hrc⟩:∃rc,rc=accC set.length cp:=⟨_,rfl⟩
    have hrcl:set.length≤rc:=by rw[hrc];exact accC_le hcp
    rw[←hrc]
    clear hrc
    have hrr:=rowsM_rows L n set hrow hin
    refine G.seqC tfine rfl trivial ?_
    refine GO.steps (Steps.loadK tfine 1 [I n] rfl rfl rfl rfl rfl hb2 rfl rfl) ?_
    refine GO.callSay 756 (plV n) (fun g=>sb (plV n g)) (fun g w=>RdV w (plV n g) n 1 (elI (placesL n))) rfl rfl rfl rfl rfl (fun args w=>Try.call77 args w) (fun ρ w hs hok=>places_any n w (by omega)) fun g=>?_
    refine GO.callPlain (v:=I (overM L n set)) rfl rfl rfl rfl (fun args w=>Try.call76 args w) (fun ρ w hs hok=>?_) ?_
    · exact detR L n set (placesL n) A g.1 rc g.2 us w (hs.ok 838 _ rfl).1 (hs.ok 839 _ rfl).1 hrcl (RdV.row (hs.ok 756 _ rfl).1) (placesL_len n) hlen hn (fun c hc=>by have:=mem_placesL hc;omega) hrr
    refine GO.fin tfine rfl trivial ?_
    refine G.seq ?_
    refine G.seqR tfine rfl trivial ?_
    obtain⟨ov,hov⟩:∃ov,ov=overM L n set:=⟨_,rfl⟩
    rw[←hov]
    refine G.cond (b:=ov==0) rfl (fun h3=>?_) (fun h3=>?_)
    · have h3:ov=0:=by simpa using h3
      have e:s++(cornerM L n set).toList=s:=by rw[cornerM,if_pos (by rw[←hov];exact h3)];simp
      rw[e]
      refine G.exit ?_
      exact⟨rfl,Z,rfl,fun k hk=>.inl hk,rfl⟩
    have h3:ov≠0:=by simpa using h3
    refine G.skip ?_
    refine G.seqR tfine rfl trivial ?_
    refine G.seq ?_
    refine G.seqC tfine rfl trivial ?_
    refine GO.steps (Steps.loadK tfine 1 [I n] rfl rfl rfl rfl rfl hb2 rfl rfl) ?_
    refine GO.fin tfine rfl trivial ?_
    refine G.newNil 833 1 (elI []) rfl ?_
    obtain⟨O,hO⟩:∃O,O=absW ov:=⟨_,rfl⟩
    obtain⟨fa,hfa⟩:∃fa,fa=W (O.tdiv ov):=⟨_,rfl⟩
    refine G.block (G.loop (fun z:Nat×Nat=>St.of [(1,.v (.c (.k (Pt b1)))),(2,.v (.c (.k (Pt b2)))),(3,.v (.c (.k (Pt g3)))),(5,.v (.c (.k (.slice A set.length rc)))),(8,.v (.c (.k (I ov)))),(9,.v (.c (.ptr 9 0 0 0))),(51,.v (.c (.k (I n)))),(52,.v (.c (.k (I z.1))))]
        [(1,.say S2 R2),(2,.say Z (J s Z)),(838,.say (sb (.slice A set.length rc)) (fun w=>RdRow w A set.length 1 (fun j=>[us j]))),(839,.say SR (fun w=>∀j,j<set.length→IntsAt w (us j) ((rowsM L set).getD j []))),(9,.var 29 [accV 833 1 z.1 z.2,.k (I O)]),(833,accB 3 1 z.1 z.2 (elI ((numsM (rowsM L set) n fa).take z.1)))])
      (fun z=>z.1≤n∧z.1≤z.2) (fun z=>n-z.1) (0,0) ⟨Nat.zero_le _,Nat.le_refl _⟩ (St.le_of rfl ⟨⟨_,rfl,Blk.le_refl _⟩,⟨_,rfl,Blk.le_refl _⟩,⟨_,rfl,Blk.le_refl _⟩,⟨_,rfl,Blk.le_refl _⟩,⟨_,rfl,by rw[hO];exact Blk.le_refl _⟩,⟨_,rfl,Blk.le_refl _⟩,trivial⟩ ⟨rfl,rfl,rfl,rfl,rfl,rfl,rfl,rfl,trivial⟩) ?_)
    rintro⟨k,kp⟩ ⟨hk,hkp⟩
    simp only at hk hkp
    refine G.seqR tfine rfl trivial ?_
    refine G.seq ?_
    refine G.cond (b:=decide ((k:Int)<(n:Int))) rfl (fun h4=>?_) (fun h4=>?_)
    · have h4:=of_decide_eq_true h4
      have hkn:k<n:=by omega
      refine G.skip ?_
      refine G.seq ?_
      refine G.block ?_
      refine G.seqR tfine rfl trivial ?_
      refine G.seqC tfine rfl trivial ?_
      refine GO.steps (Steps.loadK tfine 1 [I n] rfl rfl rfl rfl rfl hb2 rfl rfl) ?_
      refine GO.callCap 756 3 n 1 (elI (placesL n)) rfl rfl rfl rfl rfl rfl (fun args w=>Try.call77 args w) (fun ρ w hs hok=>placesC_any n w (by omega) (by omega)) fun cp2 hcp2=>?_
      refine GO.fin tfine rfl trivial ?_
      refine G.seqC tfine rfl trivial ?_
      refine GO.steps (Steps.loadK tfine 1 [I n] rfl rfl rfl rfl rfl hb2 rfl rfl) ?_
      refine GO.fin tfine rfl ⟨by omega,by omega,by omega,trivial⟩ ?_
      rw[Int.toNat_natCast]
      refine G.weaken (st':=St.of [(1,.v (.c (.k (Pt b1)))),(2,.v (.c (.k (Pt b2)))),(3,.v (.c (.k (Pt g3)))),(5,.v (.c (.k (.slice A set.length rc)))),(8,.v (.c (.k (I ov)))),(9,.v (.c (.ptr 9 0 0 0))),(11,.v (.c (.slc 756 0 1 n cp2))),(51,.v (.c (.k (I n)))),(52,.v (.c (.k (I k))))]
        [(1,.say S2 R2),(2,.say Z (J s Z)),(838,.say (sb (.slice A set.length rc)) (fun w=>RdRow w A set.length 1 (fun j=>[us j]))),(839,.say SR (fun w=>∀j,j<set.length→IntsAt w (us j) ((rowsM L set).getD j []))),(9,.var 29 [accV 833 1 k kp,.k (I O)]),(833,accB 3 1 k kp (elI ((numsM (rowsM L set) n fa).take k))),(756,.arr 3 1 n (elI ((placesL n).set k (n:Int))) ((cp2-n)*1))])
        (St.le_of (by cases k<;>rfl) ⟨⟨_,rfl,Blk.le_refl _⟩,⟨_,rfl,Blk.le_refl _⟩,⟨_,rfl,Blk.le_refl _⟩,⟨_,rfl,Blk.le_refl _⟩,⟨_,rfl,Blk.le_refl _⟩,⟨_,rfl,Blk.le_refl _⟩,⟨_,rfl,rfl,rfl,Nat.le_refl _,(fun j hj=>by
          have hj:j<n:=hj
          rw[elI_set _ _ _ _ (by rw[placesL_len];exact hj)]
          by_cases e:j=k
          · subst e;simp
          · rw[if_neg e];simp[nbeq e]),Nat.le_refl _⟩,trivial⟩ ⟨rfl,rfl,rfl,rfl,rfl,rfl,rfl,rfl,rfl,trivial⟩) ?_
      obtain⟨v,hv⟩:∃v,v=numM (rowsM L set) n fa k:=⟨_,rfl⟩
      have hsn:=numsM_snoc (rowsM L set) n fa k hkn
      rw[←hv]at hsn
      rcases k with _|k
      · apply G.drawC (ch:=fun j=>match j with|11=>some (accF 833 72 (0+1) 1 3 (elN (elI ((numsM (rowsM L set) n fa).take 0)) 0 [I v]))|_=>none) (cls:=[0,1,0,0,12,0,32,0,224,508,1020,2047,4095,8191]) (X:=[(11,72),(11,833),(13,9)]) hmix rfl rfl rfl
        · intro c
          refine GC.more tfine 0 rfl rfl rfl trivial ?_
          refine GC.step 4 rfl rfl (tv:=toTV (I (detC (rowsM L set) ((placesL n).set 0 (n:Int))))) (ms:=[]) (Steps.callPlain rfl rfl rfl rfl (fun args w=>Try.call76 args w) (fun m' hle ρ w hs hok=>?_)) rfl ?_
          · have hC:=hs.rdArr (hle.at (y:=756) rfl) 0 n (by omega)
            exact detR L n set ((placesL n).set 0 (n:Int)) A _ rc cp2 us w (hs.ok 838 _ (hle.at rfl)).1 (hs.ok 839 _ (hle.at rfl)).1 hrcl (hC.congr fun i hi=>by rw[Nat.zero_add]) (by rw[List.length_set,placesL_len]) hlen hn set_in hrr
          refine GC.more tfine 5 rfl rfl rfl ⟨h3,trivial⟩ ?_
          refine GC.choice 11 rfl _ rfl (StepsC.appendAcc (n:=0) (c:=kp) [I v] apT35 rfl rfl rfl rfl rfl rfl rfl rfl rfl rfl rfl (by rw[hv,numM,hfa];rfl) rfl (fun u hu=>by simp at hu;subst hu;rfl) (fun k hk=>rfl) (by unfold maxLen;omega) (by omega)) rfl accF_nm rfl ?_
          refine GC.more tfine 12 rfl rfl rfl trivial ?_
          refine GC.nil ?_
          obtain⟨kp2,hkp2⟩:∃kp2,kp2=capN (0+1) (c 11):=⟨_,rfl⟩
          have hkl:0+1≤kp2:=by rw[hkp2];exact capN_le _ _
          refine G.weaken (st':=St.of [(1,.v (.c (.k (Pt b1)))),(2,.v (.c (.k (Pt b2)))),(3,.v (.c (.k (Pt g3)))),(5,.v (.c (.k (.slice A set.length rc)))),(8,.v (.c (.k (I ov)))),(9,.v (.c (.ptr 9 0 0 0))),(51,.v (.c (.k (I n)))),(52,.v (.c (.k (I (0:Nat)))))]
            [(1,.say S2 R2),(2,.say Z (J s Z)),(838,.say (sb (.slice A set.length rc)) (fun w=>RdRow w A set.length 1 (fun j=>[us j]))),(839,.say SR (fun w=>∀j,j<set.length→IntsAt w (us j) ((rowsM L set).getD j []))),(9,.var 29 [.slc 72 0 1 (0+1) kp2,.k (I O)]),(72,.arr 3 1 (0+1) (elN (elI ((numsM (rowsM L set) n fa).take 0)) 0 [I v]) ((kp2-(0+1))*1))])
            (St.le_of rfl ⟨⟨_,rfl,Blk.le_refl _⟩,⟨_,rfl,Blk.le_refl _⟩,⟨_,rfl,Blk.le_refl _⟩,⟨_,rfl,Blk.le_refl _⟩,⟨_,rfl,by rw[hkp2];exact Blk.le_refl _⟩,⟨_,rfl,by rw[hkp2];exact Blk.le_refl _⟩,trivial⟩ ⟨rfl,rfl,rfl,rfl,rfl,rfl,rfl,rfl,trivial⟩) ?_
          refine G.rn 72 833 rfl trivial rfl rfl rfl ?_
          refine G.reg tfine rfl trivial ?_
          refine⟨(0+1,kp2),⟨by simp only;omega,hkl⟩,(by show n-(0+1)<n-0;omega),?_⟩
          exact St.le_of rfl ⟨⟨_,rfl,Blk.le_refl _⟩,⟨_,rfl,Blk.le_refl _⟩,⟨_,rfl,Blk.le_refl _⟩,⟨_,rfl,Blk.le_refl _⟩,⟨_,rfl,Blk.le_refl _⟩,⟨_,rfl,rfl,rfl,Nat.le_refl _,hsn,Nat.le_refl _⟩,trivial⟩ ⟨rfl,rfl,rfl,rfl,rfl,rfl,rfl,by first|rfl|(simp[up,I,rnS,rnTV,rnAV,rnAC];rw[IntWalk.i64_in _ (by omega)]),trivial⟩
        ·
          intro c c' j hj h
          have hj:j<14:=hj
          rcases j with _|_|_|_|_|_|_|_|_|_|_|_|_|_|j
          all_goals first|rfl|(show some _=some _;(try rw[h 11 (.inl rfl)]);(try rw[h 11 (.inr ⟨rfl,rfl⟩)]);done)|exact absurd hj (by omega)
      · apply G.drawC (ch:=fun j=>match j with|11=>some (accF 833 72 ((k+1)+1) 1 3 (elN (elI ((numsM (rowsM L set) n fa).take (k+1))) (k+1) [I v]))|_=>none) (cls:=[0,1,0,0,12,0,32,0,224,508,1020,2047,4095,8191]) (X:=[(11,72),(11,833),(13,9)]) hmix rfl rfl rfl
        · intro c
          refine GC.more tfine 0 rfl rfl rfl trivial ?_
          refine GC.step 4 rfl rfl (tv:=toTV (I (detC (rowsM L set) ((placesL n).set (k+1) (n:Int))))) (ms:=[]) (Steps.callPlain rfl rfl rfl rfl (fun args w=>Try.call76 args w) (fun m' hle ρ w hs hok=>?_)) rfl ?_
          · have hC:=hs.rdArr (hle.at (y:=756) rfl) 0 n (by omega)
            exact detR L n set ((placesL n).set (k+1) (n:Int)) A _ rc cp2 us w (hs.ok 838 _ (hle.at rfl)).1 (hs.ok 839 _ (hle.at rfl)).1 hrcl (hC.congr fun i hi=>by rw[Nat.zero_add]) (by rw[List.length_set,placesL_len]) hlen hn set_in hrr
          refine GC.more tfine 5 rfl rfl rfl ⟨h3,trivial⟩ ?_
          refine GC.choice 11 rfl _ rfl (StepsC.appendAcc (n:=(k+1)) (c:=kp) [I v] apT35 rfl rfl rfl rfl rfl rfl rfl rfl rfl rfl rfl (by rw[hv,numM,hfa];rfl) rfl (fun u hu=>by simp at hu;subst hu;rfl) (fun k hk=>rfl) (by unfold maxLen;omega) (by omega)) rfl accF_nm rfl ?_
          refine GC.more tfine 12 rfl rfl rfl trivial ?_
          refine GC.nil ?_
          obtain⟨kp2,hkp2⟩:∃kp2,kp2=capN ((k+1)+1) (c 11):=⟨_,rfl⟩
          have hkl:(k+1)+1≤kp2:=by rw[hkp2];exact capN_le _ _
          refine G.weaken (st':=St.of [(1,.v (.c (.k (Pt b1)))),(2,.v (.c (.k (Pt b2)))),(3,.v (.c (.k (Pt g3)))),(5,.v (.c (.k (.slice A set.length rc)))),(8,.v (.c (.k (I ov)))),(9,.v (.c (.ptr 9 0 0 0))),(51,.v (.c (.k (I n)))),(52,.v (.c (.k (I ((k+1):Nat)))))]
            [(1,.say S2 R2),(2,.say Z (J s Z)),(838,.say (sb (.slice A set.length rc)) (fun w=>RdRow w A set.length 1 (fun j=>[us j]))),(839,.say SR (fun w=>∀j,j<set.length→IntsAt w (us j) ((rowsM L set).getD j []))),(9,.var 29 [.slc 72 0 1 ((k+1)+1) kp2,.k (I O)]),(72,.arr 3 1 ((k+1)+1) (elN (elI ((numsM (rowsM L set) n fa).take (k+1))) (k+1) [I v]) ((kp2-((k+1)+1))*1))])
            (St.le_of rfl ⟨⟨_,rfl,Blk.le_refl _⟩,⟨_,rfl,Blk.le_refl _⟩,⟨_,rfl,Blk.le_refl _⟩,⟨_,rfl,Blk.le_refl _⟩,⟨_,rfl,by rw[hkp2];exact Blk.le_refl _⟩,⟨_,rfl,by rw[hkp2];exact Blk.le_refl _⟩,trivial⟩ ⟨rfl,rfl,rfl,rfl,rfl,rfl,rfl,rfl,trivial⟩) ?_
          refine G.rn 72 833 rfl trivial rfl rfl rfl ?_
          refine G.reg tfine rfl trivial ?_
          refine⟨((k+1)+1,kp2),⟨by simp only;omega,hkl⟩,(by show n-((k+1)+1)<n-(k+1);omega),?_⟩
          exact St.le_of rfl ⟨⟨_,rfl,Blk.le_refl _⟩,⟨_,rfl,Blk.le_refl _⟩,⟨_,rfl,Blk.le_refl _⟩,⟨_,rfl,Blk.le_refl _⟩,⟨_,rfl,Blk.le_refl _⟩,⟨_,rfl,rfl,rfl,Nat.le_refl _,hsn,Nat.le_refl _⟩,trivial⟩ ⟨rfl,rfl,rfl,rfl,rfl,rfl,rfl,by first|rfl|(simp[up,I,rnS,rnTV,rnAV,rnAC];rw[IntWalk.i64_in _ (by omega)]),trivial⟩
        ·
          intro c c' j hj h
          have hj:j<14:=hj
          rcases j with _|_|_|_|_|_|_|_|_|_|_|_|_|_|j
          all_goals first|rfl|(show some _=some _;(try rw[h 11 (.inl rfl)]);(try rw[h 11 (.inr ⟨rfl,rfl⟩)]);done)|exact absurd hj (by omega)
    · have h4:=of_decide_eq_false h4
      have e:n=k:=by omega
      subst e
      refine G.exit ?_
      rw[List.take_of_length_le (by rw[numsM_len];exact Nat.le_refl _)]
      obtain⟨nums,hnums⟩:∃nums,nums=numsM (rowsM L set) n fa:=⟨_,rfl⟩
      have hnl:nums.length=n:=by rw[hnums];exact numsM_len _ _ _
      have hcn:nums=cornN L n set:=by rw[hnums,cornN,←hov,←hO,←hfa]
      rw[←hnums]
      rw[←hcn,←hov,←hO]at hg
      have hcm:cornerM L n set=if keepsM L nums O=true then some (lowL nums O,lowO nums O) else none:=by
        rw[cornerM,if_neg (by rw[←hov];exact h3),←hcn,←hov,←hO]
      rw[hcm]
      obtain⟨cb,hcb⟩:∃cb,cb=keepsM L nums O:=⟨_,rfl⟩
      rw[←hcb]at hg hcm ⊢
      have hg:cb=true→gL nums O≠0:=hg h3
      have hse:s++(if cb=true then some (lowL nums O,lowO nums O) else none).toList=bif cb then s++[(lowL nums O,lowO nums O)] else s:=by cases cb<;>simp
      rw[hse]
      have hmemc:cb=true→(lowL nums O,lowO nums O)∈cornersM L n:=fun e=>List.mem_filterMap.2 ⟨set,hmem,by rw[hcm,if_pos e]⟩
      refine G.weaken (st':=St.of [(1,.v (.c (.k (Pt b1)))),(2,.v (.c (.k (Pt b2)))),(3,.v (.c (.k (Pt g3)))),(9,.v (.c (.ptr 9 0 0 0)))]
        [(1,.say S2 R2),(2,.say Z (J s Z)),(9,.var 29 [accV 833 1 n kp,.k (I O)]),(833,accB 3 1 n kp (elI nums))])
        (St.le_of (by cases n<;>rfl) ⟨⟨_,rfl,Blk.le_refl _⟩,⟨_,rfl,Blk.le_refl _⟩,⟨_,rfl,Blk.le_refl _⟩,⟨_,rfl,Blk.le_refl _⟩,trivial⟩ ⟨rfl,rfl,rfl,rfl,trivial⟩) ?_
      rcases n with _|n
      · refine G.seq ?_
        apply G.drawC (ch:=fun j=>match j with|9=>some (sayG 784 6 true cb (fun u=>.agg [.k (slV 0 u),.k (I (lowO nums O))]) (fun u k=>sb (slV 0 u) k∧W2.heap.size≤k) (fun u w=>RdV w (slV 0 u) 0 1 (elI (lowL nums O))∧∀k,sb (slV 0 u) k→W2.heap.size≤k))|10=>some (Sx.yieldGF (fun k=>Z k∨W2.heap.size≤k) 2 6 true cb J (bif cb then s++[(lowL nums O,lowO nums O)] else s))|_=>none) (cls:=[0,0,2,0,8,31,63,127,127,383,1023,2047,4095]) (X:=[(9,784),(10,2)]) hmix rfl rfl rfl
        · intro c
          refine GC.step 0 rfl rfl (Steps.loadK tfine 1 [.slice AL L.length cL] rfl rfl rfl rfl rfl hb1 rfl rfl) rfl ?_
          refine GC.more tfine 1 rfl rfl rfl trivial ?_
          refine GC.step 5 rfl rfl (tv:=toTV (.bool cb)) (ms:=[]) (Steps.callPlain rfl rfl rfl rfl (fun args w=>Try.call78 args w) (fun m' hle ρ w hs hok=>?_)) rfl ?_
          · obtain⟨B,eB,hB⟩:=hs.accRow (x:=833) (n:=0) (c:=kp) (e:=3) (el:=elI nums) (hle.at rfl)
            show Calls Try.prog _ #[.slice AL L.length cL,AC.conc ρ (accV 833 1 0 kp),I O] w _
            rw[eB,hcb]
            have:=keeps_any (.slice AL L.length cL) L vs B (accC 0 kp) nums O w (hcon w (hs.ok 1 _ (hle.at rfl)).1) (by rw[hnl];exact hB) (fun i hi=>by rw[hnl,hrow _ (cAt_mem hi)];exact Nat.le_refl _) (by omega) (by omega)
            rw[hnl]at this
            exact this
          refine GC.more tfine 6 rfl rfl rfl trivial ?_
          refine GC.step 7 rfl rfl (Steps.loadKG tfine 1 [.func (.yield l0) #[] #[]] rfl rfl trivial rfl rfl rfl rfl hg3 rfl rfl) rfl ?_
          refine GC.more tfine 8 rfl rfl rfl trivial ?_
          refine GC.choice 9 rfl _ rfl (StepsC.callSayG 784 (fun u=>.agg [.k (slV 0 u),.k (I (lowO nums O))]) (fun u k=>sb (slV 0 u) k∧W2.heap.size≤k) (fun u w=>RdV w (slV 0 u) 0 1 (elI (lowL nums O))∧∀k,sb (slV 0 u) k→W2.heap.size≤k) rfl rfl ⟨fun h=>h,trivial⟩ rfl rfl rfl rfl (fun args w=>Try.call71 args w) (fun u ρ m=>⟨fun a ha=>by simp at ha;rcases ha with rfl|rfl<;>trivial,rfl⟩) (fun hct m' hle ρ w hs hok=>?_)) rfl sayG_nm rfl ?_
          · obtain⟨B,eB,hB⟩:=hs.accRow (x:=833) (n:=0) (c:=kp) (e:=3) (el:=elI nums) (hle.at rfl)
            show Calls Try.prog _ #[.agg #[AC.conc ρ (accV 833 1 0 kp),I O]] w _
            rw[eB]
            have:=low_any B (accC 0 kp) nums O w (by rw[hnl];exact hB) (by omega) (hg hct)
            rw[hnl]at this
            refine this.mono ?_
            rintro e w' ⟨ha,hbl⟩
            obtain⟨A',c',rfl,h1,h2⟩:=ha.rat
            have hll:(lowL nums O).length=0:=by simp[lowL,hnl]
            rw[hll]at h1 h2 ⊢
            have hsb:=rdNew_sb (c:=c') h2
            refine⟨(.slice A' 0 c',fun _=>False),?_,hbl,⟨?_,?_⟩,?_,?_⟩
            · show Ending.returned (Value.agg #[Value.slice A' 0 c',I (lowO nums O)])=Ending.returned (Value.agg #[slV 0 (.slice A' 0 c',fun _=>False),I (lowO nums O)])
              rw[slV_eq h1]
            · rw[slV_eq h1]
              exact⟨A',c',rfl,h2.rd,fun _=>h1⟩
            · rw[slV_eq h1]
              exact fun k hk=>Nat.le_trans hs.fr.size (hsb k hk).1
            · rw[slV_eq h1]
              exact fun k hk=>hsb k hk.1
            · exact fun w1 w2 q1 q2 q3=>⟨steady_rdv w1 w2 (fun k hk=>q1 k ⟨hk,q3.2 k hk⟩) q2 q3.1,q3.2⟩
          refine GC.choice 10 rfl _ rfl (StepsC.yieldGF 2 s (lowL nums O,lowO nums O) Z hRd hmemc rfl hTW rfl rfl rfl ⟨fun h=>h,fun h=>h,trivial⟩ rfl rfl rfl rfl rfl rfl (fun hct y b hne hb=>?_) (fun hct ρ w hs hok=>?_)) rfl yieldGF_nm rfl ?_
          · refine canF_all (Q:=fun y b=>y≠2→y<1000∧Blk.calm T 0 b) ?_ ?_ ?_ y b hb hne
            · rfl
            · exact fun y b hb hne=>calm_of (T:=T) (xJ:=2) (ml:=[(1,.say S2 R2),(2,.say Z (J s Z)),(9,.var 29 [accV 833 1 0 kp,.k (I O)]),(833,accB 3 1 0 kp (elI nums))]) ⟨.inr ⟨(by show (1:Nat)<1000;decide),hTs⟩,.inl rfl,.inr ⟨(by show (9:Nat)<1000;decide),trivial⟩,.inr ⟨(by show (833:Nat)<1000;decide),(calm_accB:Blk.calm T 0 (accB 3 1 0 kp (elI nums)))⟩,trivial⟩ y b hne hb
            refine⟨⟨fun _=>⟨(by show (784:Nat)<1000;decide),fun k hk hk'=>?_⟩,trivial⟩,?_⟩
            · have:=hTW k hk
              have:=hk'.2.2
              omega
            · repeat (first|exact trivial|refine⟨trivial,?_⟩)
          · obtain⟨f1,f2⟩:=hs.sayAt (X:=784) rfl
            obtain⟨f3,f4⟩:=f1 hct
            have hv:∀k,vbk (.agg #[slV 0 (c 9),I (lowO nums O)]) k→sb (slV 0 (c 9)) k:=by
              rintro k ⟨u,hu,hk⟩
              simp at hu
              rcases hu with rfl|rfl
              · exact hk
              · exact hk.elim
            refine⟨⟨⟨slV 0 (c 9),rfl,IntsAt.of f3 (by simp[lowL,hnl]) fun _ _=>rfl⟩,fun k hk=>Nat.le_trans hlo (f4 k (hv k hk))⟩,fun k hk=>⟨f4 k (hv k hk),f2 k ⟨hct,hv k hk,f4 k (hv k hk)⟩⟩⟩
          refine GC.more tfine 11 rfl rfl rfl (by simp[AllP,condB]) ?_
          refine GC.nil ?_
          refine G.cond (b:=false) ?_ (fun h=>by cases h) (fun _=>?_)
          · cases cb<;>rfl
          refine G.skip ?_
          exact⟨rfl,_,rfl,fun k hk=>hk.2,rfl⟩
        ·
          intro c c' j hj h
          have hj:j<13:=hj
          rcases j with _|_|_|_|_|_|_|_|_|_|_|_|_|j
          all_goals first|rfl|(show some _=some _;(try rw[h 9 (.inl rfl)]);(try rw[h 9 (.inr ⟨rfl,rfl⟩)]);(try rw[h 10 (.inl rfl)]);(try rw[h 10 (.inr ⟨rfl,rfl⟩)]);done)|exact absurd hj (by omega)
      · refine G.seq ?_
        apply G.drawC (ch:=fun j=>match j with|9=>some (sayG 784 6 true cb (fun u=>.agg [.k (slV (n+1) u),.k (I (lowO nums O))]) (fun u k=>sb (slV (n+1) u) k∧W2.heap.size≤k) (fun u w=>RdV w (slV (n+1) u) (n+1) 1 (elI (lowL nums O))∧∀k,sb (slV (n+1) u) k→W2.heap.size≤k))|10=>some (Sx.yieldGF (fun k=>Z k∨W2.heap.size≤k) 2 6 true cb J (bif cb then s++[(lowL nums O,lowO nums O)] else s))|_=>none) (cls:=[0,0,2,0,8,31,63,127,127,383,1023,2047,4095]) (X:=[(9,784),(10,2)]) hmix rfl rfl rfl
        · intro c
          refine GC.step 0 rfl rfl (Steps.loadK tfine 1 [.slice AL L.length cL] rfl rfl rfl rfl rfl hb1 rfl rfl) rfl ?_
          refine GC.more tfine 1 rfl rfl rfl trivial ?_
          refine GC.step 5 rfl rfl (tv:=toTV (.bool cb)) (ms:=[]) (Steps.callPlain rfl rfl rfl rfl (fun args w=>Try.call78 args w) (fun m' hle ρ w hs hok=>?_)) rfl ?_
          · obtain⟨B,eB,hB⟩:=hs.accRow (x:=833) (n:=(n+1)) (c:=kp) (e:=3) (el:=elI nums) (hle.at rfl)
            show Calls Try.prog _ #[.slice AL L.length cL,AC.conc ρ (accV 833 1 (n+1) kp),I O] w _
            rw[eB,hcb]
            have:=keeps_any (.slice AL L.length cL) L vs B (accC (n+1) kp) nums O w (hcon w (hs.ok 1 _ (hle.at rfl)).1) (by rw[hnl];exact hB) (fun i hi=>by rw[hnl,hrow _ (cAt_mem hi)];exact Nat.le_refl _) (by omega) (by omega)
            rw[hnl]at this
            exact this
          refine GC.more tfine 6 rfl rfl rfl trivial ?_
          refine GC.step 7 rfl rfl (Steps.loadKG tfine 1 [.func (.yield l0) #[] #[]] rfl rfl trivial rfl rfl rfl rfl hg3 rfl rfl) rfl ?_
          refine GC.more tfine 8 rfl rfl rfl trivial ?_
          refine GC.choice 9 rfl _ rfl (StepsC.callSayG 784 (fun u=>.agg [.k (slV (n+1) u),.k (I (lowO nums O))]) (fun u k=>sb (slV (n+1) u) k∧W2.heap.size≤k) (fun u w=>RdV w (slV (n+1) u) (n+1) 1 (elI (lowL nums O))∧∀k,sb (slV (n+1) u) k→W2.heap.size≤k) rfl rfl ⟨fun h=>h,trivial⟩ rfl rfl rfl rfl (fun args w=>Try.call71 args w) (fun u ρ m=>⟨fun a ha=>by simp at ha;rcases ha with rfl|rfl<;>trivial,rfl⟩) (fun hct m' hle ρ w hs hok=>?_)) rfl sayG_nm rfl ?_
          · obtain⟨B,eB,hB⟩:=hs.accRow (x:=833) (n:=(n+1)) (c:=kp) (e:=3) (el:=elI nums) (hle.at rfl)
            show Calls Try.prog _ #[.agg #[AC.conc ρ (accV 833 1 (n+1) kp),I O]] w _
            rw[eB]
            have:=low_any B (accC (n+1) kp) nums O w (by rw[hnl];exact hB) (by omega) (hg hct)
            rw[hnl]at this
            refine this.mono ?_
            rintro e w' ⟨ha,hbl⟩
            obtain⟨A',c',rfl,h1,h2⟩:=ha.rat
            have hll:(lowL nums O).length=(n+1):=by simp[lowL,hnl]
            rw[hll]at h1 h2 ⊢
            have hsb:=rdNew_sb (c:=c') h2
            refine⟨(.slice A' (n+1) c',fun _=>False),?_,hbl,⟨?_,?_⟩,?_,?_⟩
            · show Ending.returned (Value.agg #[Value.slice A' (n+1) c',I (lowO nums O)])=Ending.returned (Value.agg #[slV (n+1) (.slice A' (n+1) c',fun _=>False),I (lowO nums O)])
              rw[slV_eq h1]
            · rw[slV_eq h1]
              exact⟨A',c',rfl,h2.rd,fun _=>h1⟩
            · rw[slV_eq h1]
              exact fun k hk=>Nat.le_trans hs.fr.size (hsb k hk).1
            · rw[slV_eq h1]
              exact fun k hk=>hsb k hk.1
            · exact fun w1 w2 q1 q2 q3=>⟨steady_rdv w1 w2 (fun k hk=>q1 k ⟨hk,q3.2 k hk⟩) q2 q3.1,q3.2⟩
          refine GC.choice 10 rfl _ rfl (StepsC.yieldGF 2 s (lowL nums O,lowO nums O) Z hRd hmemc rfl hTW rfl rfl rfl ⟨fun h=>h,fun h=>h,trivial⟩ rfl rfl rfl rfl rfl rfl (fun hct y b hne hb=>?_) (fun hct ρ w hs hok=>?_)) rfl yieldGF_nm rfl ?_
          · refine canF_all (Q:=fun y b=>y≠2→y<1000∧Blk.calm T 0 b) ?_ ?_ ?_ y b hb hne
            · rfl
            · exact fun y b hb hne=>calm_of (T:=T) (xJ:=2) (ml:=[(1,.say S2 R2),(2,.say Z (J s Z)),(9,.var 29 [accV 833 1 (n+1) kp,.k (I O)]),(833,accB 3 1 (n+1) kp (elI nums))]) ⟨.inr ⟨(by show (1:Nat)<1000;decide),hTs⟩,.inl rfl,.inr ⟨(by show (9:Nat)<1000;decide),trivial⟩,.inr ⟨(by show (833:Nat)<1000;decide),(calm_accB:Blk.calm T 0 (accB 3 1 (n+1) kp (elI nums)))⟩,trivial⟩ y b hne hb
            refine⟨⟨fun _=>⟨(by show (784:Nat)<1000;decide),fun k hk hk'=>?_⟩,trivial⟩,?_⟩
            · have:=hTW k hk
              have:=hk'.2.2
              omega
            · repeat (first|exact trivial|refine⟨trivial,?_⟩)
          · obtain⟨f1,f2⟩:=hs.sayAt (X:=784) rfl
            obtain⟨f3,f4⟩:=f1 hct
            have hv:∀k,vbk (.agg #[slV (n+1) (c 9),I (lowO nums O)]) k→sb (slV (n+1) (c 9)) k:=by
              rintro k ⟨u,hu,hk⟩
              simp at hu
              rcases hu with rfl|rfl
              · exact hk
              · exact hk.elim
            refine⟨⟨⟨slV (n+1) (c 9),rfl,IntsAt.of f3 (by simp[lowL,hnl]) fun _ _=>rfl⟩,fun k hk=>Nat.le_trans hlo (f4 k (hv k hk))⟩,fun k hk=>⟨f4 k (hv k hk),f2 k ⟨hct,hv k hk,f4 k (hv k hk)⟩⟩⟩
          refine GC.more tfine 11 rfl rfl rfl (by simp[AllP,condB]) ?_
          refine GC.nil ?_
          refine G.cond (b:=false) ?_ (fun h=>by cases h) (fun _=>?_)
          · cases cb<;>rfl
          refine G.skip ?_
          exact⟨rfl,_,rfl,fun k hk=>hk.2,rfl⟩
        ·
          intro c c' j hj h
          have hj:j<13:=hj
          rcases j with _|_|_|_|_|_|_|_|_|_|_|_|_|j
          all_goals first|rfl|(show some _=some _;(try rw[h 9 (.inl rfl)]);(try rw[h 9 (.inr ⟨rfl,rfl⟩)]);(try rw[h 10 (.inl rfl)]);(try rw[h 10 (.inr ⟨rfl,rfl⟩)]);done)|exact absurd hj (by omega)
end Go.Proofs.Ytafhnfcahhlanaa
namespace Go.Proofs.Ytafhnfcahhlanaa
open Go.Sx Go.RowKit
theorem choose_in {n k:Nat} {l:List Int} (h:l∈chooseM n k):l.length=k∧∀x∈l,0≤x∧x<n:=by
  obtain⟨s,_,e,hk⟩:=choose_mem h
  refine⟨hk,fun x hx=>?_⟩
  subst e
  exact mem_setN hx
def keepI {α:Type} (S2:Nat→Prop) (R2:World→Prop) (f:List Int→Option α) (J:List α→(Nat→Prop)→World→Prop) (s:List (List Int)) (Z:Nat→Prop) (W:World):Prop:=
  ∃Z',(∀k,Z k↔(Z' k∨S2 k))∧R2 W∧J (s.filterMap f) Z' W
theorem keepI_steady {α:Type} {S2:Nat→Prop} {R2:World→Prop} {f:List Int→Option α} {J:List α→(Nat→Prop)→World→Prop} (h2:Steady S2 R2) (hJ:∀s Z,Steady Z (J s Z)) (s:List (List Int)) (Z:Nat→Prop):Steady Z (keepI S2 R2 f J s Z):=by
  rintro w1 w2 a1 a2 ⟨Z',e1,e2,e3⟩
  exact⟨Z',e1,h2 w1 w2 (fun k hk=>a1 k ((e1 k).2 (.inr hk))) a2 e2,hJ _ _ w1 w2 (fun k hk=>a1 k ((e1 k).2 (.inl hk))) a2 e3⟩
theorem corners_iter (L:List Cond) (lv:Value) (vs:Nat→Value) (n b1 b2:Nat) (w:World) (S0:Nat→Prop) (hc:ConsAt w lv L vs) (hS0:Steady S0 (fun w=>ConsAt w lv L vs)) (hlt0:∀k,S0 k→k<w.heap.size) (hsb0:∀k,sb lv k→S0 k)
    (h1:w.heap[b1]?=some (.cells #[lv] 59 (0,0))) (h2:w.heap[b2]?=some (.cells #[I n] 3 (0,0))) (hL:L.length≤8) (hn:n≤8) (hrow:∀c∈L,c.1.length=n)
    (hg:∀set∈chooseM L.length n,overM L n set≠0→keepsM L (cornN L n set) (absW (overM L n set))=true→gL (cornN L n set) (absW (overM L n set))≠0):
    Iter Try.prog (.func (.func 74) #[] #[Pt b1,Pt b2]) (fun k=>(k=b1∨k=b2)∨S0 k) RelR (cornersM L n) w:=by
  refine⟨74,#[Pt b1,Pt b2],rfl,fun args w=>Try.call74 args w,?_⟩
  intro l0 T J Z W hrd hsz hT hZ hR hJ
  rw[show (#[.func (.yield l0) #[] #[]]++#[Pt b1,Pt b2]:Array Value)=#[.func (.yield l0) #[] #[],Pt b1,Pt b2] from by simp]
  obtain⟨AL,cL,hlv⟩:∃AL cL,lv=.slice AL L.length cL:=by obtain⟨A,c,e,_⟩:=hc;exact⟨A,c,e⟩
  subst hlv
  obtain⟨S1,hS1⟩:∃S1:Nat→Prop,S1=fun x=>(x=b1∨x=b2)∨S0 x:=⟨_,rfl⟩
  obtain⟨R1,hR1⟩:∃R1:World→Prop,R1=fun w=>(w.heap[b1]?=some (.cells #[.slice AL L.length cL] 59 (0,0))∧w.heap[b2]?=some (.cells #[I n] 3 (0,0)))∧ConsAt w (.slice AL L.length cL) L vs:=⟨_,rfl⟩
  have hst1:Steady S1 R1:=by rw[hS1,hR1];exact ((Steady.heap (.inl (.inl rfl))).and (Steady.heap (.inl (.inr rfl)))).and (hS0.mono fun k hk=>.inr hk)
  have hRW:R1 W:=hst1 w W (fun k hk=>hrd k (by rw[hS1]at hk;exact hk)) hsz (by rw[hR1];exact⟨⟨h1,h2⟩,hc⟩)
  have hlt1:∀k,S1 k→k<W.heap.size:=by
    rw[hS1]
    rintro k ((rfl|rfl)|hk)
    · have:=lt_of_heap h1;omega
    · have:=lt_of_heap h2;omega
    · have:=hlt0 k hk;omega
  have hTW:∀k∈T,k<W.heap.size:=fun k hk=>(hT k hk).1
  have hTS:∀k∈T,¬S1 k:=by rw[hS1];exact fun k hk=>(hT k hk).2
  refine enterRaw T [.c (.k (.func (.yield l0) #[] #[])),.c (.k (Pt b1)),.c (.k (Pt b2))] [(1,.say S1 R1),(2,.say Z (J [] Z))] Try.func74 rfl 88 Try.ntmps74 rfl rfl ⟨trivial,trivial,trivial,trivial⟩
    ⟨⟨hRW,hlt1,hst1⟩,⟨fun h=>h.elim,fun h=>h.elim,trivial⟩,⟨hJ,hZ,hR.1 _ _⟩,trivial,trivial⟩ fun ρ0 a0 hs0=>?_
  have hb1:∀w,R1 w→w.heap[b1]?=some (.cells #[.slice AL L.length cL] 59 (0,0)):=fun w h=>by rw[hR1]at h;exact h.1.1
  have hb2:∀w,R1 w→w.heap[b2]?=some (.cells #[I n] 3 (0,0)):=fun w h=>by rw[hR1]at h;exact h.1.2
  refine rawSeq rfl hs0 (G.reg tfine rfl trivial ⟨rfl,fun ρ1 a1 w1 hs1=>?_⟩)
  refine rawSeq rfl hs1 (G.regC tfine rfl trivial ?_)
  refine GO.steps (Steps.loadK tfine 1 [.slice AL L.length cL] rfl rfl rfl rfl rfl hb1 rfl rfl) ?_
  refine GO.more tfine rfl trivial ?_
  refine GO.steps (Steps.loadK tfine 1 [I n] rfl rfl rfl rfl rfl hb2 rfl rfl) ?_
  refine GO.callSay 715 (boxV 94) boxS (boxR (I L.length) (I n) 3 3 W.heap.size) rfl rfl rfl rfl rfl (fun args w=>Try.call75 args w) (fun ρ w hs hok=>choices_any W.heap.size L.length n w hs.fr.size) fun g=>?_
  refine GO.nil ⟨rfl,fun ρ2 a2 w2 hs2=>?_⟩
  have k1:=hs2.tmK (j:=1) (v:=Pt b1) rfl
  have k2:=hs2.tmK (j:=2) (v:=Pt b2) rfl
  have k15:=hs2.tmK (j:=15) (v:=boxV 94 g) rfl
  obtain⟨k3,p3,q3,r3⟩:=hs2.tmP (j:=3) (x:=3) (off:=0) rfl rfl
  obtain⟨f1,_⟩:=hs2.mem.sayAt (X:=1) rfl
  obtain⟨f2,f2'⟩:=hs2.mem.sayAt (X:=2) rfl
  obtain⟨⟨⟨g1,g2⟩,g3,g4⟩,g5⟩:=hs2.mem.sayAt (X:=715) rfl
  have hfrW:=hs2.mem.fr
  simp only[borT_snd]at hfrW
  have hdf:=hs2.df
  have hsz2:=hs2.sz
  obtain⟨p,hp⟩:∃p,p=(ρ2 3).1:=⟨_,rfl⟩
  rw[←hp]at k3 p3 q3 r3
  have p3:w2.heap[p]?=some (.cells #[.func (.yield l0) #[] #[]] 79 (0,0)):=p3
  have hpW:W.heap.size≤p:=by
    rcases q3 with h|h
    · exact h
    · have:=borT_mem h;omega
  obtain⟨S2,hS2⟩:∃S2:Nat→Prop,S2=fun k=>S1 k∨k=p:=⟨_,rfl⟩
  obtain⟨R2,hR2⟩:∃R2:World→Prop,R2=fun w=>R1 w∧w.heap[p]?=some (.cells #[.func (.yield l0) #[] #[]] 79 (0,0)):=⟨_,rfl⟩
  have hst2:Steady S2 R2:=by rw[hS2,hR2];exact (hst1.mono fun k hk=>.inl hk).and (Steady.heap (.inr rfl))
  have hR12:∀w,R2 w→R1 w:=fun w h=>by rw[hR2]at h;exact h.1
  have hTS2:∀k∈T,¬S2 k:=by
    rw[hS2]
    rintro k hk (h|rfl)
    · exact hTS k hk h
    · have:=hTW _ hk;omega
  have hWw:W.heap.size≤w2.heap.size:=hfrW.size
  have hS2w:∀k,S2 k→k<w2.heap.size:=by
    rw[hS2]
    rintro k (h|rfl)
    · have:=hlt1 k h;omega
    · exact r3
  refine wpIn_block ?_
  refine wp_range (gv:=boxV 94 g) k15 (choices_iter L.length n g.1 g.2 w2 hL g1 g2) (fun k hk=>(g5 k hk).1) T ?_ (keepI S2 R2 (cornerM L n) J) (keepI_steady hst2 hR.1) (fun k=>Z k∨S2 k) ?_ ⟨Z,fun _=>Iff.rfl,by rw[hR2];exact⟨f1,p3⟩,f2⟩ ?_ ?_
  · rintro k hk
    have:=hTW k hk
    exact⟨by omega,fun h=>by rcases h with rfl|rfl<;>omega⟩
  · rintro k (hk|hk)
    · have:=hZ k hk;omega
    · exact hS2w k hk
  · rintro l s x v Zk W1 hx hl hsame hlt ⟨Z',e1,e2,e3⟩ hZ1 ⟨A5,c5,rfl,hrd5,hc5⟩ hv
    obtain⟨hlen,hin⟩:=choose_in hx
    have hsA:Sat ⟨W1,borT 1000 [],88,some l,[]⟩ (ρT 1000 []) (St.of [(1,.v (.c (.k (Pt b1)))),(2,.v (.c (.k (Pt b2)))),(3,.v (.c (.k (Pt p)))),(16,.v (.c (.k (.slice A5 x.length c5))))] []) { tmps:=a2.tmps.setIfInBounds 16 (.slice A5 x.length c5),defers:=[] } W1:=
      Sat.say0 (Nat.le_refl _) rfl (by rw[Array.size_setIfInBounds];exact hsz2) ⟨by rw[getD_setNe (show (1:Nat)≠16 by decide),k1];rfl,by rw[getD_setNe (show (2:Nat)≠16 by decide),k2];rfl,by rw[getD_setNe (show (3:Nat)≠16 by decide),k3];rfl,by rw[getD_setEq (by rw[hsz2];show 16<88;decide)];rfl,trivial⟩ trivial
    refine⟨fun a₁ w₁=>∃ρ,Sat ⟨W1,borT 1000 [],88,some l,[]⟩ ρ (St.of [(1,.v (.c (.k (Pt b1)))),(2,.v (.c (.k (Pt b2)))),(3,.v (.c (.k (Pt p)))),(4,.v (.c (.k (.slice A5 x.length c5))))] []) a₁ w₁,assign_wp rfl hsA rfl (G.reg tfine rfl trivial ⟨rfl,St.le_of rfl trivial ⟨rfl,rfl,rfl,rfl,trivial⟩⟩),?_⟩
    rintro a₁ w₁ ⟨ρ',hs1'⟩
    have hfr1:Fr W1 [] w₁:=hs1'.mem.fr
    refine⟨hfr1,fun W3 hsm hsz3 hoth=>?_⟩
    have t1:=hs1'.tmK (j:=1) (v:=Pt b1) rfl
    have t2:=hs1'.tmK (j:=2) (v:=Pt b2) rfl
    have t3:=hs1'.tmK (j:=3) (v:=Pt p) rfl
    have t4:=hs1'.tmK (j:=4) (v:=.slice A5 x.length c5) rfl
    have hmv:∀{S:Nat→Prop} {R:World→Prop},Steady S R→(∀k,S k→k<W1.heap.size∧k≠l)→R W1→R W3:=fun hst hS hR=>hst W1 W3 (fun k hk=>(hoth k (hS k hk).2).trans (hfr1.block k (hS k hk).1 (by simp))) (by rw[hsz3];exact hfr1.size) hR
    have hZ':∀k,Z' k→k<W1.heap.size∧k≠l:=fun k hk=>hZ1 k ((e1 k).2 (.inl hk))
    have hS2':∀k,S2 k→k<W1.heap.size∧k≠l:=fun k hk=>hZ1 k ((e1 k).2 (.inr hk))
    have h13:W1.heap.size≤W3.heap.size:=by rw[hsz3];exact hfr1.size
    have hv':∀k,sb (.slice A5 x.length c5) k→k<W1.heap.size∧k≠l:=fun k hk=>⟨(hv k hk).1,(hv k hk).2.2⟩
    have hsB:Sat ⟨W3,borT 1000 T,88,some l,[]⟩ (ρT 1000 T) (St.of [(1,.v (.c (.k (Pt b1)))),(2,.v (.c (.k (Pt b2)))),(3,.v (.c (.k (Pt p)))),(4,.v (.c (.k (.slice A5 x.length c5))))] [(1,.say S2 R2),(2,.say Z' (J (s.filterMap (cornerM L n)) Z')),(5,.say (sb (.slice A5 x.length c5)) (fun w=>IntsAt w (.slice A5 x.length c5) x))]) a₁ W3:=
      Sat.say0 (Nat.le_refl _) hs1'.df hs1'.sz ⟨by rw[t1];rfl,by rw[t2];rfl,by rw[t3];rfl,by rw[t4];rfl,trivial⟩
        ⟨⟨hmv hst2 hS2' e2,fun k hk=>Nat.lt_of_lt_of_le (hS2' k hk).1 h13,hst2⟩,⟨fun h=>h.elim,fun h=>h.elim,fun h=>h.elim,fun h=>h.elim,trivial⟩,⟨hmv (hR.1 _ _) hZ' e3,fun k hk=>Nat.lt_of_lt_of_le (hZ' k hk).1 h13,hR.1 _ _⟩,⟨fun h=>h.elim,fun h=>h.elim,trivial⟩,⟨hmv steady_ints hv' ⟨A5,c5,rfl,hrd5,hc5⟩,fun k hk=>Nat.lt_of_lt_of_le (hv' k hk).1 h13,steady_ints⟩,trivial,trivial⟩
    have hWW3:Same W W3:=((hfrW.same.trans hsame).trans hfr1.same).trans hsm
    refine body_wp rfl hsB rfl (corner_round L AL A5 cL c5 vs n b1 b2 p l0 l W.heap.size W3 T J (s.filterMap (cornerM L n)) Z' S2 R2 x (fun w h=>hb1 w (hR12 w h)) (fun w h=>hb2 w (hR12 w h)) (fun w h=>by rw[hR2]at h;exact h.2) (fun w h=>by have:=hR12 w h;rw[hR1]at this;exact this.2)
      (fun k hk=>by rw[hS2,hS1];exact .inl (.inr (hsb0 k hk))) hTS2 (fun k hk hk'=>(hv k hk').2.1 hk) (fun k hk=>by have:=hTW k hk;have:=hWW3.size;omega) (hR.later hWW3) hWW3.size hL hn hrow hlen hin hx (hg x hx)) ?_
    rintro e ρ st a w' hs ⟨rfl,Zn,m2,hZn,m1⟩
    obtain⟨j1,j2,_⟩:=hs.mem.ok 2 _ m2
    obtain⟨i1,i2,_⟩:=hs.mem.ok 1 _ m1
    have hfr3:=hs.mem.fr
    simp only[borT_snd]at hfr3
    refine⟨rfl,hfr3,fun k=>Zn k∨S2 k,⟨Zn,fun _=>Iff.rfl,i1,?_⟩,?_⟩
    · have e:(s++[x]).filterMap (cornerM L n)=s.filterMap (cornerM L n)++(cornerM L n x).toList:=by
        rw[List.filterMap_append]
        congr 1
      rw[e]
      exact j1
    · rintro k (hk|hk)
      · refine⟨?_,j2 k hk⟩
        rcases hZn k hk with h|h
        · exact .inl ((e1 k).2 (.inl h))
        · exact .inr (.inr (by omega))
      · exact⟨.inl ((e1 k).2 (.inr hk)),i2 k hk⟩
  · rintro Zf W3 hfr ⟨Z',e1,e2,e3⟩ hZf hK
    refine marks_end (.inr rfl) (by rw[hdf]) hK (results_none (fn:=Try.f74) rfl _ _ _) ⟨⟨_,rfl⟩,?_,Z',?_,?_⟩
    · exact (hfrW.trans' hfr fun k _ h=>h).putObj (.inl hWw) _
    · exact hR.1 _ _ W3 _ (fun k hk=>World.putObj_heap_other (hZf k ((e1 k).2 (.inl hk))).2) (by simp) e3
    · intro k hk
      rw[World.putObj_size]
      exact (hZf k ((e1 k).2 (.inl hk))).1
end Go.Proofs.Ytafhnfcahhlanaa
namespace Go.Proofs.Ytafhnfcahhlanaa
open Go.Sx Go.RowKit
def cur (o:Option Rat):Rat:=o.getD ([],0)
def cOf (by_:List Int) (o:Option Rat) (x:Rat):Int:=if o.isSome=true then cmpM (dotL by_ x.1) x.2 (dotL by_ (cur o).1) (cur o).2 else 1
def takes (by_:List Int) (o:Option Rat) (x:Rat):Bool:=decide (cOf by_ o x>0)||(cOf by_ o x==0&&decide (ordM x.1 x.2 (cur o).1 (cur o).2<0))
def bstep (by_:List Int) (o:Option Rat) (x:Rat):Option Rat:=if takes by_ o x=true then some x else o
def bestM (by_:List Int) (xs:List Rat):Option Rat:=xs.foldl (bstep by_) none
theorem bestM_snoc (by_:List Int) (s:List Rat) (x:Rat):bestM by_ (s++[x])=bstep by_ (bestM by_ s) x:=by simp[bestM]
theorem takes_none (by_:List Int) (x:Rat):takes by_ none x=true:=by
  have:cOf by_ none x=1:=by simp[cOf]
  simp[takes,this]
theorem bestM_mem (by_:List Int) (xs s:List Rat) (hs:∀x∈s,x∈xs):∀x,bestM by_ s=some x→x∈xs:=by
  have key:∀(s:List Rat) (o:Option Rat),(∀x∈s,x∈xs)→(∀x,o=some x→x∈xs)→∀x,s.foldl (bstep by_) o=some x→x∈xs:=by
    intro s
    induction s with
    |nil=>intro o _ ho x hx;exact ho x hx
    |cons y s ih=>
      intro o hs ho x hx
      refine ih _ (fun z hz=>hs z (List.mem_cons_of_mem _ hz)) (fun z hz=>?_) x hx
      unfold bstep at hz
      split at hz
      · cases hz;exact hs _ List.mem_cons_self
      · exact ho z hz
  exact key s none hs (fun x h=>by cases h)
def bodyL:Code→Code
  |.seq (.seq _ b) _=>bodyR b
  |.seq _ y=>bodyL y
  |c=>c
noncomputable def body32:Code:=bodyL (Try.f32.body.getD .skip)
theorem best_round (by_:List Int) (B An Ax:Option Addr) (d cn cx g3 l:Nat) (g6 g7 g8:Nat) (W2:World) (o:Option Rat) (x:Rat) (S2:Nat→Prop) (R2:World→Prop)
    (h3:∀w,R2 w→w.heap[g3]?=some (.cells #[.slice B by_.length d] 22 (0,0))) (hB:∀w,R2 w→RdRow w B by_.length 1 (elI by_)) (hx:x.1.length=by_.length) (ho:o.isSome=true→(cur o).1.length=by_.length) (hn:by_.length≤100000)
    (hm1 : -9223372036854775808<dotL by_ x.1) (hm2:∀k,k<x.1.length→-9223372036854775808<x.1.getD k 0) (hcn:0<(cur o).1.length→(cur o).1.length≤cn) (hcx:0<x.1.length→x.1.length≤cx):
    G Try.prog ⟨W2,borT 1000 [g6,g7,g8],42,some l,[]⟩ (fun e st=>e=.normal∧st.m 1000=some (.var 29 [.k (bif takes by_ o x then .slice Ax x.1.length cx else .slice An (cur o).1.length cn),.k (I (bif takes by_ o x then x.2 else (cur o).2))])∧st.m 1001=some (.var 4 [.k (.bool (takes by_ o x||o.isSome))])
        ∧ st.m 1002=some (.var 29 [.k (.slice Ax x.1.length cx),.k (I x.2)])∧st.m 1=some (.say S2 R2)∧st.m 4=some (.say (sb (.slice An (cur o).1.length cn)) (fun w=>IntsAt w (.slice An (cur o).1.length cn) (cur o).1))∧st.m 5=some (.say (sb (.slice Ax x.1.length cx)) (fun w=>IntsAt w (.slice Ax x.1.length cx) x.1))) body32
      (St.of [(3,.v (.c (.k (Pt g3)))),(6,.v (.c (.ptr 1000 0 0 0))),(7,.v (.c (.ptr 1001 0 0 0))),(8,.v (.c (.ptr 1002 0 0 0)))]
        [(1000,.var 29 [.k (.slice An (cur o).1.length cn),.k (I (cur o).2)]),(1001,.var 4 [.k (.bool o.isSome)]),(1002,.var 29 [.k (.slice Ax x.1.length cx),.k (I x.2)]),(1,.say S2 R2),(4,.say (sb (.slice An (cur o).1.length cn)) (fun w=>IntsAt w (.slice An (cur o).1.length cn) (cur o).1)),(5,.say (sb (.slice Ax x.1.length cx)) (fun w=>IntsAt w (.slice Ax x.1.length cx) x.1))]):=by
  have rowOf:∀{w:World} {A:Option Addr} {l:List Int} {c:Nat},IntsAt w (.slice A l.length c) l→RdRow w A l.length 1 (elI l):=fun h=>by obtain⟨A',c',e,h1,_⟩:=h;cases e;exact h1
  refine G.block (id:=1) ?_
  refine G.seqR tfine rfl trivial ?_
  obtain⟨os,hos⟩:∃os,os=o.isSome:=⟨_,rfl⟩
  rw[←hos]at ho ⊢
  refine G.join (fun c:Int=>St.of [(3,.v (.c (.k (Pt g3)))),(6,.v (.c (.ptr 1000 0 0 0))),(7,.v (.c (.ptr 1001 0 0 0))),(8,.v (.c (.ptr 1002 0 0 0))),(9,.v (.c (.k (I c))))]
        [(1000,.var 29 [.k (.slice An (cur o).1.length cn),.k (I (cur o).2)]),(1001,.var 4 [.k (.bool os)]),(1002,.var 29 [.k (.slice Ax x.1.length cx),.k (I x.2)]),(1,.say S2 R2),(4,.say (sb (.slice An (cur o).1.length cn)) (fun w=>IntsAt w (.slice An (cur o).1.length cn) (cur o).1)),(5,.say (sb (.slice Ax x.1.length cx)) (fun w=>IntsAt w (.slice Ax x.1.length cx) x.1))]) (fun c=>c=cOf by_ o x) ?_ ?_
  · refine G.seqR tfine rfl trivial ?_
    refine G.cond (b:=os) rfl (fun h=>?_) (fun h=>?_)
    · have hl:=ho h
      refine G.draw (cls:=[0,0,2,7,0,16,0,0,128,463,0,1024,4095,8191]) (X:=[]) hmix rfl rfl rfl ?_
      refine GD.stepF 0 rfl (Steps.loadK tfine 1 [.slice B by_.length d] rfl rfl rfl rfl rfl h3 rfl rfl) rfl ?_
      refine GD.more tfine 1 rfl rfl trivial ?_
      refine GD.call (v:=I (dotL by_ x.1)) 3 rfl rfl rfl rfl rfl (fun args w=>Try.call39 args w) (fun m' hle ρ w1 hs _=>dot_any B Ax d cx by_ x.1 w1 (hB _ (hs.ok 1 _ (hle.at rfl)).1) (rowOf (hs.ok 5 _ (hle.at rfl)).1) (by omega) (by omega)) ?_
      refine GD.more tfine 4 rfl rfl trivial ?_
      refine GD.stepF 6 rfl (Steps.loadK tfine 1 [.slice B by_.length d] rfl rfl rfl rfl rfl h3 rfl rfl) rfl ?_
      refine GD.more tfine 7 rfl rfl trivial ?_
      refine GD.call (v:=I (dotL by_ (cur o).1)) 9 rfl rfl rfl rfl rfl (fun args w=>Try.call39 args w) (fun m' hle ρ w1 hs _=>dot_any B An d cn by_ (cur o).1 w1 (hB _ (hs.ok 1 _ (hle.at rfl)).1) (rowOf (hs.ok 4 _ (hle.at rfl)).1) (by omega) (by omega)) ?_
      refine GD.more tfine 10 rfl rfl trivial ?_
      refine GD.call (v:=I (cmpM (dotL by_ x.1) x.2 (dotL by_ (cur o).1) (cur o).2)) 12 rfl rfl rfl rfl rfl (fun args w=>Try.call72 args w) (fun m' hle ρ w1 hs _=>cmp_any _ _ _ _ w1 hm1) ?_
      refine GD.fin tfine 13 rfl rfl trivial ?_
      refine⟨_,?_,St.le_of rfl ⟨⟨_,rfl,Blk.le_refl _⟩,⟨_,rfl,Blk.le_refl _⟩,⟨_,rfl,Blk.le_refl _⟩,⟨_,rfl,Blk.le_refl _⟩,⟨_,rfl,Blk.le_refl _⟩,⟨_,rfl,Blk.le_refl _⟩,trivial⟩ ⟨rfl,rfl,rfl,rfl,rfl,trivial⟩⟩
      rw[cOf,if_pos (by rw[←hos];exact h)]
    · refine G.skip ?_
      refine⟨1,?_,St.le_of rfl ⟨⟨_,rfl,Blk.le_refl _⟩,⟨_,rfl,Blk.le_refl _⟩,⟨_,rfl,Blk.le_refl _⟩,⟨_,rfl,Blk.le_refl _⟩,⟨_,rfl,Blk.le_refl _⟩,⟨_,rfl,Blk.le_refl _⟩,trivial⟩ ⟨rfl,rfl,rfl,rfl,rfl,trivial⟩⟩
      rw[cOf,if_neg (by rw[←hos,h];decide)]
  rintro c hc
  obtain⟨tk,htk⟩:∃tk,tk=takes by_ o x:=⟨_,rfl⟩
  have htk2:tk=(decide (c>0)||(c==0&&decide (ordM x.1 x.2 (cur o).1 (cur o).2<0))):=by rw[htk,hc];rfl
  rw[←htk]
  refine G.seqC tfine rfl ?_ ?_
  · first|trivial|(simp[AllP,condB];done)|(simp only[AllP];and_intros<;>first|trivial|decide|omega)|(simp[AllP,condB];intros;and_intros<;>first|assumption|omega)|(simp[AllP,condB];intros;simp_all;done)
  refine GO.callGuard (I (ordM x.1 x.2 (cur o).1 (cur o).2)) rfl rfl rfl ⟨fun h=>h,fun h=>h,trivial⟩ rfl rfl (fun args w=>Try.call73 args w) rfl (fun hct m' hle ρ w1 hs hok=>?_) ?_
  · have hot:os=true:=by
      cases hh:os with
      |true=>rfl
      |false=>
        have:c=1:=by rw[hc,cOf,if_neg (by rw[←hos,hh];decide)]
        rw[this]at hct
        exact absurd hct (by decide)
    have hl:=ho hot
    exact order_any Ax An cx cn x.1 (cur o).1 x.2 (cur o).2 w1 (rowOf (hs.ok 5 _ (hle.at rfl)).1) (rowOf (hs.ok 4 _ (hle.at rfl)).1) (by omega) (by omega) hm2
  refine GO.fin tfine rfl ?_ ?_
  · first|trivial|(simp[AllP,condB];done)|(simp only[AllP];and_intros<;>first|trivial|decide|omega)|(simp[AllP,condB];intros;and_intros<;>first|assumption|omega)|(simp[AllP,condB];intros;simp_all;done)
  refine G.cond (b:=tk) ?_ (fun h=>?_) (fun h=>?_)
  · rw[htk2]
    generalize decide (c>0)=p
    generalize (c==0)=q
    generalize decide (ordM x.1 x.2 (cur o).1 (cur o).2<0)=r
    cases p<;>cases q<;>cases r<;>rfl
  · rw[h]
    refine G.reg tfine rfl trivial ?_
    exact⟨rfl,rfl,rfl,rfl,rfl,rfl,rfl⟩
  · rw[h]
    refine G.skip ?_
    exact⟨rfl,rfl,rfl,rfl,rfl,rfl,rfl⟩
end Go.Proofs.Ytafhnfcahhlanaa
