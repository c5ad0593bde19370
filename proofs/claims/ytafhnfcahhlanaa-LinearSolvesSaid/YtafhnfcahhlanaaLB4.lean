import Derived.Test.YtafhnfcahhlanaaLB3
set_option linter.unusedVariables false
set_option linter.unusedSimpArgs false
set_option maxRecDepth 8000
set_option maxHeartbeats 2000000
namespace Go.Proofs.Ytafhnfcahhlanaa
open Go.Sx Go.RowKit
def keepB (by_:List Int) (S2:Nat→Prop) (R2:World→Prop) (g6 g7 g4 lo:Nat) (xs s:List Rat) (Z:Nat→Prop) (W:World):Prop:=
  ∃nv,(∀k,Z k↔((sb nv k∨S2 k)∨(k=g6∨k=g7∨k=g4)))∧(∀k,sb nv k→lo≤k∧k≠g6∧k≠g7∧k≠g4)∧R2 W∧W.heap[g6]?=some (.cells #[nv,I (cur (bestM by_ s)).2] 29 (0,0))∧W.heap[g7]?=some (.cells #[.bool (bestM by_ s).isSome] 4 (0,0))∧W.heap[g4]?=some (.cells #[.slice none 0 0,I 0] 29 (0,0))∧IntsAt W nv (cur (bestM by_ s)).1∧∀y∈s,y∈xs
theorem keepB_steady {by_:List Int} {S2:Nat→Prop} {R2:World→Prop} {g6 g7 g4 lo:Nat} {xs:List Rat} (h2:Steady S2 R2) (s:List Rat) (Z:Nat→Prop):Steady Z (keepB by_ S2 R2 g6 g7 g4 lo xs s Z):=by
  rintro w1 w2 a1 a2 ⟨nv,e1,e2,e3,e4,e5,e6,e7,e8⟩
  exact⟨nv,e1,e2,h2 w1 w2 (fun k hk=>a1 k ((e1 k).2 (.inl (.inr hk)))) a2 e3,(a1 g6 ((e1 g6).2 (.inr (.inl rfl)))).trans e4,(a1 g7 ((e1 g7).2 (.inr (.inr (.inl rfl))))).trans e5,(a1 g4 ((e1 g4).2 (.inr (.inr (.inr rfl))))).trans e6,steady_ints w1 w2 (fun k hk=>a1 k ((e1 k).2 (.inl (.inl hk)))) a2 e7,e8⟩
theorem IntsAt.nil (w:World):IntsAt w (.slice none 0 0) []:=⟨none,0,rfl,RdRow.nil _ _ _ _,fun h=>absurd h (Nat.lt_irrefl 0)⟩
theorem best_any (by_:List Int) (gv:Value) (hgv:∃f a b,gv=.func f a b) (rd:Nat→Prop) (xs:List Rat) (B:Option Addr) (d:Nat) (w:World) (hI:Iter Try.prog gv rd RelR xs w) (hrd:∀k,rd k→k<w.heap.size) (hB:RdRow w B by_.length 1 (elI by_)) (hn:by_.length≤100000)
    (hx:∀x∈xs,x.1.length=by_.length∧-9223372036854775808<dotL by_ x.1∧∀k,k<x.1.length→-9223372036854775808<x.1.getD k 0):
    Calls Try.prog 32 #[gv,.slice B by_.length d] w fun e w'=>∃nv,e=.returned (.tuple #[.agg #[nv,I (cur (bestM by_ xs)).2],.bool (bestM by_ xs).isSome])∧Below w.heap.size w w'∧IntsAt w' nv (cur (bestM by_ xs)).1∧∀k,sb nv k→w.heap.size≤k∧k<w'.heap.size:=by
  obtain⟨gf,ga,gb,rfl⟩:=hgv
  obtain⟨S1,hS1⟩:∃S1:Nat→Prop,S1=fun k=>rd k∨sb (.slice B by_.length d) k:=⟨_,rfl⟩
  have hlt1:∀k,S1 k→k<w.heap.size:=by
    rw[hS1]
    rintro k (hk|hk)
    · exact hrd k hk
    · exact sb_lt hB k hk
  obtain⟨R1,hR1⟩:∃R1:World→Prop,R1=fun w1=>Iter Try.prog (.func gf ga gb) rd RelR xs w1∧RdRow w1 B by_.length 1 (elI by_):=⟨_,rfl⟩
  have hst1:Steady S1 R1:=by rw[hS1,hR1];exact (Iter.steady.mono fun k hk=>.inl hk).and (steady_row.mono fun k hk=>.inr hk)
  refine enterRaw [] [.c (.k (.func gf ga gb)),.c (.k (.slice B by_.length d))] [(1,.say S1 R1)] Try.func32 rfl 42 Try.ntmps32 rfl rfl ⟨trivial,trivial,trivial⟩
    ⟨⟨by rw[hR1];exact⟨hI,hB⟩,hlt1,hst1⟩,trivial,trivial⟩ fun ρ0 a0 hs0=>?_
  refine rawSeq rfl hs0 (G.reg tfine rfl trivial ⟨rfl,fun ρ1 a1 w1 hs1=>?_⟩)
  refine rawSeq rfl hs1 (G.reg tfine rfl trivial ⟨rfl,fun ρ2 a2 w2 hs2=>?_⟩)
  refine wpIn_seq ?_
  refine rawSeq rfl hs2 (G.reg tfine rfl trivial ⟨rfl,fun ρ3 a3 w3 hs3=>?_⟩)
  have k11:=hs3.tmK (j:=11) (v:=.func gf ga gb) rfl
  obtain⟨k3,p3,q3,r3⟩:=hs3.tmP (j:=3) (x:=3) (off:=0) rfl rfl
  obtain⟨k4,p4,q4,r4⟩:=hs3.tmP (j:=4) (x:=4) (off:=0) rfl rfl
  obtain⟨k6,p6,q6,r6⟩:=hs3.tmP (j:=6) (x:=6) (off:=0) rfl rfl
  obtain⟨k7,p7,q7,r7⟩:=hs3.tmP (j:=7) (x:=7) (off:=0) rfl rfl
  obtain⟨f1,f1'⟩:=hs3.mem.sayAt (X:=1) rfl
  have ne64:=hs3.mem.ne 6 4 _ _ rfl rfl trivial trivial (by decide)
  have ne74:=hs3.mem.ne 7 4 _ _ rfl rfl trivial trivial (by decide)
  have ne76:=hs3.mem.ne 7 6 _ _ rfl rfl trivial trivial (by decide)
  have ne63:=hs3.mem.ne 6 3 _ _ rfl rfl trivial trivial (by decide)
  have ne73:=hs3.mem.ne 7 3 _ _ rfl rfl trivial trivial (by decide)
  have ne43:=hs3.mem.ne 4 3 _ _ rfl rfl trivial trivial (by decide)
  have hfrW:=hs3.mem.fr
  have hdf:=hs3.df
  have hsz3:=hs3.sz
  obtain⟨g3,hg3⟩:∃g3,g3=(ρ3 3).1:=⟨_,rfl⟩
  obtain⟨g4,hg4⟩:∃g4,g4=(ρ3 4).1:=⟨_,rfl⟩
  obtain⟨g6,hg6⟩:∃g6,g6=(ρ3 6).1:=⟨_,rfl⟩
  obtain⟨g7,hg7⟩:∃g7,g7=(ρ3 7).1:=⟨_,rfl⟩
  have ne64:g6≠g4:=by rw[hg6,hg4];exact ne64
  have ne74:g7≠g4:=by rw[hg7,hg4];exact ne74
  have ne76:g7≠g6:=by rw[hg7,hg6];exact ne76
  have ne63:g6≠g3:=by rw[hg6,hg3];exact ne63
  have ne73:g7≠g3:=by rw[hg7,hg3];exact ne73
  have ne43:g4≠g3:=by rw[hg4,hg3];exact ne43
  rw[←hg3]at k3 p3 q3 r3
  rw[←hg4]at k4 p4 q4 r4
  rw[←hg6]at k6 p6 q6 r6
  rw[←hg7]at k7 p7 q7 r7
  have p3:w3.heap[g3]?=some (.cells #[.slice B by_.length d] 22 (0,0)):=p3
  have p4:w3.heap[g4]?=some (.cells #[.slice none 0 0,I 0] 29 (0,0)):=p4
  have p6:w3.heap[g6]?=some (.cells #[.slice none 0 0,I 0] 29 (0,0)):=p6
  have p7:w3.heap[g7]?=some (.cells #[.bool false] 4 (0,0)):=p7
  have q3:w.heap.size≤g3:=q3.elim id (fun h=>by cases h)
  have q4:w.heap.size≤g4:=q4.elim id (fun h=>by cases h)
  have q6:w.heap.size≤g6:=q6.elim id (fun h=>by cases h)
  have q7:w.heap.size≤g7:=q7.elim id (fun h=>by cases h)
  have hfrW:Fr w [] w3:=hfrW
  have hww:w.heap.size≤w3.heap.size:=hfrW.size
  clear hg3 hg4 hg6 hg7
  obtain⟨S2,hS2⟩:∃S2:Nat→Prop,S2=fun k=>S1 k∨k=g3:=⟨_,rfl⟩
  obtain⟨R2,hR2⟩:∃R2:World→Prop,R2=fun w=>R1 w∧w.heap[g3]?=some (.cells #[.slice B by_.length d] 22 (0,0)):=⟨_,rfl⟩
  have hst2:Steady S2 R2:=by rw[hS2,hR2];exact (hst1.mono fun k hk=>.inl hk).and (Steady.heap (.inr rfl))
  have hS2w:∀k,S2 k→k<w3.heap.size∧k≠g6∧k≠g7∧k≠g4:=by
    rw[hS2]
    rintro k (h|rfl)
    · have:=hlt1 k h
      exact⟨by omega,by omega,by omega,by omega⟩
    · exact⟨r3,ne63.symm,ne73.symm,ne43.symm⟩
  have hR23:∀w,R2 w→w.heap[g3]?=some (.cells #[.slice B by_.length d] 22 (0,0)):=fun w h=>by rw[hR2]at h;exact h.2
  have hR2B:∀w,R2 w→RdRow w B by_.length 1 (elI by_):=fun w h=>by rw[hR2,hR1]at h;exact h.1.2
  have f1I:Iter Try.prog (.func gf ga gb) rd RelR xs w3:=by rw[hR1]at f1;exact f1.1
  refine wpIn_block ?_
  refine wp_range (gv:=.func gf ga gb) k11 f1I (fun k hk=>by have:=hrd k hk;omega) [g6,g7,g4] ?_ (keepB by_ S2 R2 g6 g7 g4 w.heap.size xs) (keepB_steady hst2) (fun k=>(sb (.slice none 0 0) k∨S2 k)∨(k=g6∨k=g7∨k=g4)) ?_
    ⟨.slice none 0 0,fun _=>Iff.rfl,fun k hk=>absurd hk.1 (Nat.lt_irrefl 0),by rw[hR2];exact⟨f1,p3⟩,p6,p7,p4,IntsAt.nil w3,fun y hy=>by cases hy⟩ ?_ ?_
  · intro k hk
    have:k=g6∨k=g7∨k=g4:=by simpa using hk
    rcases this with rfl|rfl|rfl
    · exact⟨r6,fun h=>by have:=hrd _ h;omega⟩
    · exact⟨r7,fun h=>by have:=hrd _ h;omega⟩
    · exact⟨r4,fun h=>by have:=hrd _ h;omega⟩
  · rintro k ((hk|hk)|rfl|rfl|rfl)
    · exact absurd hk.1 (Nat.lt_irrefl 0)
    · exact (hS2w k hk).1
    · exact r6
    · exact r7
    · exact r4
  · rintro l s x v Zk W1 hxm hl hsame hlt ⟨nv,e1,e2,e3,e4,e5,e6,e7,hsx⟩ hZ1 ⟨⟨xv,rfl,hxv⟩,hxlo⟩ hv
    obtain⟨An,cn,rfl,hAn,hcn⟩:=e7
    obtain⟨Ax,cx,rfl,hAx,hcx⟩:=hxv
    have hvx:∀k,sb (.slice Ax x.1.length cx) k→vbk (.agg #[.slice Ax x.1.length cx,I x.2]) k:=fun k hk=>⟨_,by simp,hk⟩
    obtain⟨hx1,hx2,hx3⟩:=hx x hxm
    have hcur:(bestM by_ s).isSome=true→(cur (bestM by_ s)).1.length=by_.length:=fun h=>(hx _ (by
      obtain⟨y,hy⟩:=Option.isSome_iff_exists.1 h
      rw[show cur (bestM by_ s)=y from by rw[cur,hy];rfl]
      exact bestM_mem by_ xs s hsx y hy)).1
    have hsA:Sat ⟨W1,borT 1000 [],42,some l,[]⟩ (ρT 1000 []) (St.of [(3,.v (.c (.k (Pt g3)))),(6,.v (.c (.k (Pt g6)))),(7,.v (.c (.k (Pt g7)))),(12,.v (.agg [.k (.slice Ax x.1.length cx),.k (I x.2)]))] []) { tmps:=a3.tmps.setIfInBounds 12 (.agg #[.slice Ax x.1.length cx,I x.2]),defers:=[] } W1:=
      Sat.say0 (Nat.le_refl _) rfl (by rw[Array.size_setIfInBounds];exact hsz3) ⟨by rw[getD_setNe (show (3:Nat)≠12 by decide),k3];rfl,by rw[getD_setNe (show (6:Nat)≠12 by decide),k6];rfl,by rw[getD_setNe (show (7:Nat)≠12 by decide),k7];rfl,by rw[getD_setEq (by rw[hsz3];show 12<42;decide)];rfl,trivial⟩ trivial
    refine⟨fun a₁ w₁=>∃ρ,Sat ⟨W1,borT 1000 [],42,some l,[]⟩ ρ (St.of [(3,.v (.c (.k (Pt g3)))),(6,.v (.c (.k (Pt g6)))),(7,.v (.c (.k (Pt g7)))),(8,.v (.c (.ptr 8 0 0 0)))] [(8,.var 29 [.k (.slice Ax x.1.length cx),.k (I x.2)])]) a₁ w₁,assign_wp rfl hsA rfl (G.reg tfine rfl trivial ⟨rfl,St.le_of rfl ⟨⟨_,rfl,Blk.le_refl _⟩,trivial⟩ ⟨rfl,rfl,rfl,rfl,trivial⟩⟩),?_⟩
    rintro a₁ w₁ ⟨ρ',hs1'⟩
    have hfr1:Fr W1 [] w₁:=hs1'.mem.fr
    refine⟨hfr1,fun W3 hsm hsz3' hoth=>?_⟩
    have t3:=hs1'.tmK (j:=3) (v:=Pt g3) rfl
    have t6:=hs1'.tmK (j:=6) (v:=Pt g6) rfl
    have t7:=hs1'.tmK (j:=7) (v:=Pt g7) rfl
    obtain⟨t8,p8,q8,r8⟩:=hs1'.tmP (j:=8) (x:=8) (off:=0) rfl rfl
    obtain⟨g8,hg8⟩:∃g8,g8=(ρ' 8).1:=⟨_,rfl⟩
    rw[←hg8]at t8 p8 q8 r8
    have p8:w₁.heap[g8]?=some (.cells #[.slice Ax x.1.length cx,I x.2] 29 (0,0)):=p8
    have q8:W1.heap.size≤g8:=q8.elim id (fun h=>by cases h)
    clear hg8
    have hZ':∀k,Zk k→k<W1.heap.size∧k≠l:=hZ1
    have h13:W1.heap.size≤W3.heap.size:=by rw[hsz3'];exact hfr1.size
    have hmv:∀{S:Nat→Prop} {R:World→Prop},Steady S R→(∀k,S k→k<W1.heap.size∧k≠l)→R W1→R W3:=fun hst hS hR=>hst W1 W3 (fun k hk=>(hoth k (hS k hk).2).trans (hfr1.block k (hS k hk).1 (by simp))) h13 hR
    have hS2':∀k,S2 k→k<W1.heap.size∧k≠l:=fun k hk=>hZ1 k ((e1 k).2 (.inl (.inr hk)))
    have hnv':∀k,sb (.slice An (cur (bestM by_ s)).1.length cn) k→k<W1.heap.size∧k≠l:=fun k hk=>hZ1 k ((e1 k).2 (.inl (.inl hk)))
    have hg6':=hZ1 g6 ((e1 g6).2 (.inr (.inl rfl)))
    have hg7':=hZ1 g7 ((e1 g7).2 (.inr (.inr (.inl rfl))))
    have hg4':=hZ1 g4 ((e1 g4).2 (.inr (.inr (.inr rfl))))
    have hv':∀k,sb (.slice Ax x.1.length cx) k→(k<W1.heap.size∧k≠l)∧(k≠g6∧k≠g7∧k≠g4):=fun k hk=>by
      have h:=hv k (hvx k hk)
      have h2:=h.2.1
      simp only[List.mem_cons,List.not_mem_nil,or_false,not_or]at h2
      exact⟨⟨h.1,h.2.2⟩,h2⟩
    have hh:∀{k:Nat} {o:Obj},k<W1.heap.size∧k≠l→W1.heap[k]?=some o→W3.heap[k]?=some o:=fun hk ho=>(hoth _ hk.2).trans ((hfr1.block _ hk.1 (by simp)).trans ho)
    have h8l:g8≠l:=by omega
    have p8':W3.heap[g8]?=some (.cells #[.slice Ax x.1.length cx,I x.2] 29 (0,0)):=(hoth g8 h8l).trans p8
    have hg8W:g8<W3.heap.size:=lt_of_heap p8'
    have u1:g6≠g8:=by omega
    have u2:g7≠g8:=by omega
    have u3:∀k,S2 k→k≠g6∧k≠g7∧k≠g8:=fun k hk=>⟨(hS2w k hk).2.1,(hS2w k hk).2.2.1,by have:=(hS2' k hk).1;omega⟩
    have u4:∀k,sb (.slice An (cur (bestM by_ s)).1.length cn) k→k≠g6∧k≠g7∧k≠g8:=fun k hk=>⟨(e2 k hk).2.1,(e2 k hk).2.2.1,by have:=(hnv' k hk).1;omega⟩
    have u5:∀k,sb (.slice Ax x.1.length cx) k→k≠g6∧k≠g7∧k≠g8:=fun k hk=>⟨(hv' k hk).2.1,(hv' k hk).2.2.1,by have:=(hv' k hk).1;omega⟩
    have hsB:Sat ⟨W3,borT 1000 [g6,g7,g8],42,some l,[]⟩ (ρT 1000 [g6,g7,g8]) (St.of [(3,.v (.c (.k (Pt g3)))),(6,.v (.c (.k (Pt g6)))),(7,.v (.c (.k (Pt g7)))),(8,.v (.c (.k (Pt g8))))]
        [(1000,.var 29 [.k (.slice An (cur (bestM by_ s)).1.length cn),.k (I (cur (bestM by_ s)).2)]),(1001,.var 4 [.k (.bool (bestM by_ s).isSome)]),(1002,.var 29 [.k (.slice Ax x.1.length cx),.k (I x.2)]),(1,.say S2 R2),(4,.say (sb (.slice An (cur (bestM by_ s)).1.length cn)) (fun w=>IntsAt w (.slice An (cur (bestM by_ s)).1.length cn) (cur (bestM by_ s)).1)),(5,.say (sb (.slice Ax x.1.length cx)) (fun w=>IntsAt w (.slice Ax x.1.length cx) x.1))]) a₁ W3:=by
      refine Sat.say0 (Nat.le_refl _) hs1'.df hs1'.sz ⟨by rw[t3];rfl,by rw[t6];rfl,by rw[t7];rfl,by rw[t8];rfl,trivial⟩ ?_
      refine⟨⟨.head _,[_,_],⟨rfl,rfl,trivial⟩,hh hg6' e4⟩,⟨fun _=>?_,fun _=>?_,fun _=>?_,fun _=>?_,fun _ h=>(u3 _ h).1 rfl,fun h=>h.elim,fun _ h=>(u4 _ h).1 rfl,fun h=>h.elim,fun _ h=>(u5 _ h).1 rfl,fun h=>h.elim,trivial⟩,
        ⟨.tail _ (.head _),[_],⟨rfl,trivial⟩,hh hg7' e5⟩,⟨fun _=>?_,fun _=>?_,fun _ h=>(u3 _ h).2.1 rfl,fun h=>h.elim,fun _ h=>(u4 _ h).2.1 rfl,fun h=>h.elim,fun _ h=>(u5 _ h).2.1 rfl,fun h=>h.elim,trivial⟩,
        ⟨.tail _ (.tail _ (.head _)),[_,_],⟨rfl,rfl,trivial⟩,p8'⟩,⟨fun _ h=>(u3 _ h).2.2 rfl,fun h=>h.elim,fun _ h=>(u4 _ h).2.2 rfl,fun h=>h.elim,fun _ h=>(u5 _ h).2.2 rfl,fun h=>h.elim,trivial⟩,
        ⟨hmv hst2 hS2' e3,fun k hk=>Nat.lt_of_lt_of_le (hS2' k hk).1 h13,hst2⟩,⟨fun h=>h.elim,fun h=>h.elim,fun h=>h.elim,fun h=>h.elim,trivial⟩,
        ⟨hmv steady_ints hnv' ⟨An,cn,rfl,hAn,hcn⟩,fun k hk=>Nat.lt_of_lt_of_le (hnv' k hk).1 h13,steady_ints⟩,⟨fun h=>h.elim,fun h=>h.elim,trivial⟩,
        ⟨hmv steady_ints (fun k hk=>(hv' k hk).1) ⟨Ax,cx,rfl,hAx,hcx⟩,fun k hk=>Nat.lt_of_lt_of_le (hv' k hk).1.1 h13,steady_ints⟩,trivial,trivial⟩
      · exact ne76.symm
      · exact ne76
      · exact u1
      · exact u1.symm
      · exact u2
      · exact u2.symm
    have hsC:=((hsB.toPtr (d:=6) (g:=g6) 1000 rfl (.head _) rfl).toPtr (d:=7) (g:=g7) 1001 rfl (.tail _ (.head _)) rfl).toPtr (d:=8) (g:=g8) 1002 rfl (.tail _ (.tail _ (.head _))) rfl
    refine body_wp rfl hsC rfl (G.weaken ?_ (best_round by_ B An Ax d cn cx g3 l g6 g7 g8 W3 (bestM by_ s) x S2 R2 hR23 hR2B hx1 hcur hn hx2 hx3 hcn hcx)) ?_
    · exact St.le_of rfl ⟨⟨_,rfl,Blk.le_refl _⟩,⟨_,rfl,Blk.le_refl _⟩,⟨_,rfl,Blk.le_refl _⟩,⟨_,rfl,Blk.le_refl _⟩,⟨_,rfl,Blk.le_refl _⟩,⟨_,rfl,Blk.le_refl _⟩,trivial⟩ ⟨rfl,rfl,rfl,rfl,trivial⟩
    rintro e ρ st a w' hs ⟨rfl,m0,m1,m2,m3,m4,m5⟩
    have hbo:=hs.mem.bo
    have z0:=(hbo (1000,g6) (.head _)).1
    have z1:=(hbo (1001,g7) (.tail _ (.head _))).1
    have z2:=(hbo (1002,g8) (.tail _ (.tail _ (.head _)))).1
    have v0:=(hs.mem.ok 1000 _ m0).2.2.1
    have v1:=(hs.mem.ok 1001 _ m1).2.2.1
    have v2:=(hs.mem.ok 1002 _ m2).2.2.1
    simp only[z0,z1,z2]at v0 v1 v2
    have hfr3:=hs.mem.fr
    simp only[borT_snd]at hfr3
    refine⟨rfl,⟨hfr3.os,hfr3.tape,hfr3.output,hfr3.size,fun k hk hn=>?_⟩,?_⟩
    · by_cases e:k=g8
      · subst e
        exact v2.trans p8'.symm
      · refine hfr3.block k hk fun h=>?_
        have h:k=g6∨k=g7∨k=g8:=by simpa using h
        simp only[List.mem_cons,List.not_mem_nil,or_false,not_or]at hn
        omega
    have i4:w'.heap[g4]?=some (.cells #[.slice none 0 0,I 0] 29 (0,0)):=(hfr3.block g4 (by omega) (by simp;omega)).trans (hh hg4' e6)
    have s1:=hs.mem.ok 1 _ m3
    have s4:=hs.mem.ok 4 _ m4
    have s5:=hs.mem.ok 5 _ m5
    have hw1:W1.heap.size≤w'.heap.size:=by have:=hfr3.size;omega
    obtain⟨tk,htk⟩:∃tk,tk=takes by_ (bestM by_ s) x:=⟨_,rfl⟩
    have hbs:bestM by_ (s++[x])=if tk=true then some x else bestM by_ s:=by rw[bestM_snoc,bstep,←htk]
    rw[←htk]at v0 v1
    have hsx':∀y∈s++[x],y∈xs:=fun y hy=>by
      rcases List.mem_append.1 hy with h|h
      · exact hsx y h
      · rw[List.mem_singleton.1 h];exact hxm
    have hgl:∀k,k=g6∨k=g7∨k=g4→Zk k∧k<w'.heap.size:=by
      rintro k (rfl|rfl|rfl)
      · exact⟨(e1 _).2 (.inr (.inl rfl)),by omega⟩
      · exact⟨(e1 _).2 (.inr (.inr (.inl rfl))),by omega⟩
      · exact⟨(e1 _).2 (.inr (.inr (.inr rfl))),by omega⟩
    unfold keepB
    rw[hbs]
    cases tk with
    |true=>
      refine⟨_,⟨.slice Ax x.1.length cx,fun _=>Iff.rfl,fun k hk=>⟨by have:=hxlo k (hvx k hk);omega,(hv' k hk).2⟩,s1.1,v0,v1,i4,s5.1,hsx'⟩,?_⟩
      rintro k ((hk|hk)|hk)
      · exact⟨.inr (.inl (hvx k hk)),s5.2.1 k hk⟩
      · exact⟨.inl ((e1 k).2 (.inl (.inr hk))),s1.2.1 k hk⟩
      · exact⟨.inl (hgl k hk).1,(hgl k hk).2⟩
    |false=>
      refine⟨_,⟨.slice An (cur (bestM by_ s)).1.length cn,fun _=>Iff.rfl,e2,s1.1,v0,v1,i4,s4.1,hsx'⟩,?_⟩
      rintro k ((hk|hk)|hk)
      · exact⟨.inl ((e1 k).2 (.inl (.inl hk))),s4.2.1 k hk⟩
      · exact⟨.inl ((e1 k).2 (.inl (.inr hk))),s1.2.1 k hk⟩
      · exact⟨.inl (hgl k hk).1,(hgl k hk).2⟩
  · rintro Zf W4 hfr ⟨nv,e1,e2,e3,e4,e5,e6,e7,hsx⟩ hZf hK
    obtain⟨An,cn,rfl,hAn,hcn⟩:=e7
    obtain⟨D,hD⟩:∃D,D=w3.heap.size:=⟨_,rfl⟩
    rw[←hD]at hK ⊢
    have hD4:D<W4.heap.size:=lt_of_heap hK
    have d4:g4≠D:=by have:=(hZf g4 ((e1 g4).2 (.inr (.inr (.inr rfl))))).2;omega
    have d6:g6≠D:=by have:=(hZf g6 ((e1 g6).2 (.inr (.inl rfl)))).2;omega
    have d7:g7≠D:=by have:=(hZf g7 ((e1 g7).2 (.inr (.inr (.inl rfl))))).2;omega
    have hnvD:∀k,sb (.slice An (cur (bestM by_ xs)).1.length cn) k→k<W4.heap.size∧k≠D:=fun k hk=>by have:=hZf k ((e1 k).2 (.inl (.inl hk)));omega
    have hsE:Sat ⟨W4,borT 1000 [g4,g6,g7,D],42,none,[{ target:=.collected D,args:=#[] }]⟩ (ρT 1000 [g4,g6,g7,D]) (St.of [(4,.v (.c (.k (Pt g4)))),(6,.v (.c (.k (Pt g6)))),(7,.v (.c (.k (Pt g7))))]
        [(1000,.var 29 [.k (.slice none 0 0),.k (I 0)]),(1001,.var 29 [.k (.slice An (cur (bestM by_ xs)).1.length cn),.k (I (cur (bestM by_ xs)).2)]),(1002,.var 4 [.k (.bool (bestM by_ xs).isSome)]),(9,.say (·=D) (fun w=>w.heap[D]?=some (.deferred (some []))))]) { a3 with defers:={ target:=.collected D,args:=#[] }::a3.defers } W4:=by
      refine Sat.say0 (Nat.le_refl _) (by rw[hdf]) hsz3 ⟨by rw[k4];rfl,by rw[k6];rfl,by rw[k7];rfl,trivial⟩ ?_
      refine⟨⟨.head _,[_,_],⟨rfl,rfl,trivial⟩,e6⟩,⟨fun _=>?_,fun _=>?_,fun _=>?_,fun _=>?_,fun _=>d4,fun h=>h.elim,trivial⟩,
        ⟨.tail _ (.head _),[_,_],⟨rfl,rfl,trivial⟩,e4⟩,⟨fun _=>?_,fun _=>?_,fun _=>d6,fun h=>h.elim,trivial⟩,
        ⟨.tail _ (.tail _ (.head _)),[_],⟨rfl,trivial⟩,e5⟩,⟨fun _=>d7,fun h=>h.elim,trivial⟩,
        ⟨hK,(fun k hk=>by rw[hk];exact hD4),Steady.heap rfl⟩,trivial,trivial⟩
      · exact ne64.symm
      · exact ne64
      · exact ne74.symm
      · exact ne74
      · exact ne76.symm
      · exact ne76
    have hsF:=((hsE.toPtr (d:=4) (g:=g4) 1000 rfl (.head _) rfl).toPtr (d:=6) (g:=g6) 1001 rfl (.tail _ (.head _)) rfl).toPtr (d:=7) (g:=g7) 1002 rfl (.tail _ (.tail _ (.head _))) rfl
    refine raw_wp rfl hsF (K:=fun e st=>e=.ret∧St.le ⟨W4,borT 1000 [g4,g6,g7,D],42,none,[{ target:=.collected D,args:=#[] }]⟩ (St.of [(4,.v (.c (.ptr 1000 0 0 0))),(5,.v (.c (.k (.bool (bestM by_ xs).isSome))))] [(1000,.var 29 [.k (.slice An (cur (bestM by_ xs)).1.length cn),.k (I (cur (bestM by_ xs)).2)]),(9,.say (·=D) (fun w=>w.heap[D]?=some (.deferred (some []))))]) st) ?_ ?_
    · refine G.seqD tfine hmix [0,0,1,7] [(2,1000)] rfl rfl rfl rfl trivial ?_
      exact G.ret ⟨rfl,St.le_of rfl ⟨⟨_,rfl,Blk.le_refl _⟩,⟨_,rfl,Blk.le_refl _⟩,trivial⟩ ⟨rfl,rfl,trivial⟩⟩
    · rintro e ρ st a w' hs ⟨rfl,hle⟩
      have hs':=hle _ _ _ hs
      have hs2:=hs'.shutD 9 (.deferred none) (D:=D) (.inr (by simp[borT])) rfl (fun z b hz hb=>by
        rcases lkM_mem (ml:=[(1000,.var 29 [.k (.slice An (cur (bestM by_ xs)).1.length cn),.k (I (cur (bestM by_ xs)).2)]),(9,.say (·=D) (fun w=>w.heap[D]?=some (.deferred (some []))))]) (j:=z) with h|⟨q,hq,rfl,h2⟩
        · have hb:lkM _ z=some b:=hb
          rw[h]at hb;cases hb
        · simp at hq
          rcases hq with rfl|rfl
          · have hb:lkM _ 1000=some b:=hb
            have h2:lkM _ 1000=_:=h2
            rw[h2]at hb;cases hb;trivial
          · exact absurd rfl hz)
      have hfr4:=hs'.mem.fr
      simp only[borT_snd]at hfr4
      refine marks_end (.inl rfl) hs'.df (hs'.mem.ok 9 _ rfl).1 (results_run tfine hs2 rfl) ⟨.slice An (cur (bestM by_ xs)).1.length cn,rfl,?_,?_,?_⟩
      · refine Fr.toBelow (((hfrW.trans' hfr (fun k hk h=>?_)).trans' hfr4 (fun k hk h=>?_)).putObj (.inl (by omega)) _)
        · have h:k=g6∨k=g7∨k=g4:=by simpa using h
          omega
        · have h:k=g4∨k=g6∨k=g7∨k=D:=by simpa using h
          omega
      · refine steady_ints W4 _ (fun k hk=>?_) (by rw[World.putObj_size];exact hfr4.size) ⟨An,cn,rfl,hAn,hcn⟩
        have h5:=hnvD k hk
        have h6:=e2 k hk
        exact (World.putObj_heap_other h5.2).trans (hfr4.block k h5.1 (by simp;omega))
      · intro k hk
        have:=hnvD k hk
        have:=(e2 k hk).1
        rw[World.putObj_size]
        have:=hfr4.size
        omega
end Go.Proofs.Ytafhnfcahhlanaa
set_option maxHeartbeats 2000000
namespace Go.Proofs.Ytafhnfcahhlanaa
open Go.Sx Go.RowKit
noncomputable def body81:Code:=bodyR (Try.f81.body.getD .skip)
def rowsR (L:List Cond) (set:List Int):List (List Int):=set.map fun i=>(cAt L i.toNat).1
def rayX (rows:List (List Int)) (n k:Nat):Int:=if k % 2=1 then W (0-detC rows ((placesL n).eraseIdx k)) else detC rows ((placesL n).eraseIdx k)
def rayL (rows:List (List Int)) (n:Nat):List Int:=(List.range n).map (rayX rows n)
def negW (l:List Int):List Int:=l.map fun x=>W (0-x)
def max1 (g:Int):Int:=if 1>g then 1 else g
def divX (g:Int) (l:List Int):List Int:=l.map fun x=>W (x.tdiv (max1 g))
def ray0 (L:List Cond) (n:Nat) (set:List Int):List Int:=divX (divM (rayL (rowsR L set) n)) (rayL (rowsR L set) n)
def ray1 (L:List Cond) (n:Nat) (set:List Int):List Int:=divX (divM (rayL (rowsR L set) n)) (negW (rayL (rowsR L set) n))
def rayOk (L:List Cond) (n:Nat) (set r:List Int):Bool:=decide ((divM (rayL (rowsR L set) n):Int)>0)&&keepsM L r 1
def raysOf (L:List Cond) (n:Nat) (set:List Int):List (List Int):=(bif rayOk L n set (ray0 L n set) then [ray0 L n set] else [])++(bif rayOk L n set (ray1 L n set) then [ray1 L n set] else [])
def raysM (L:List Cond) (n:Nat):List (List Int):=(chooseM L.length (n-1)).flatMap (raysOf L n)
theorem rowsR_len (L:List Cond) (set:List Int):(rowsR L set).length=set.length:=by simp[rowsR]
theorem rowsR_get (L:List Cond) (set:List Int) (i:Nat) (h:i<set.length):(rowsR L set).getD i []=(cAt L (set.getD i 0).toNat).1:=by
  simp[rowsR,List.getD_eq_getElem?_getD,List.getElem?_eq_getElem h]
theorem rowsR_rows (L:List Cond) (n:Nat) (set:List Int) (hrow:∀c∈L,c.1.length=n) (hset:∀x∈set,0≤x∧x<L.length):∀r∈rowsR L set,r.length=n:=by
  intro r hr
  obtain⟨x,hx,rfl⟩:=List.mem_map.1 hr
  have:=hset x hx
  exact hrow _ (cAt_mem (L:=L) (i:=x.toNat) (by omega))
theorem placesO_any (n:Nat) (w:World) (h0:0<n) (hn:n≤1000000):Calls Try.prog 77 #[I n] w fun e w'=>OwnNew w w' e 3 n 1 (elI (placesL n))∧Below w.heap.size w w':=
  (placesC_any n w h0 hn).mono fun e w' ⟨⟨b,c,h1,h2,h3,cs,h4,h5,h6⟩,hb⟩=>⟨⟨b,c,h1,h2,h3,cs,h4,by omega,h6⟩,hb⟩
theorem rayL_len (rows:List (List Int)) (n:Nat):(rayL rows n).length=n:=by simp[rayL]
theorem negW_len (l:List Int):(negW l).length=l.length:=by simp[negW]
theorem divX_len (g:Int) (l:List Int):(divX g l).length=l.length:=by simp[divX]
theorem take_snoc (l:List Int) (k:Nat) (v:Int) (h:k<l.length) (hv:l.getD k 0=v):∀j,j<k+1→elI (l.take (k+1)) j=elN (elI (l.take k)) k [I v] j:=fun j hj=>by
  have hl:(l.take k).length=k:=by rw[List.length_take];omega
  have e:l.take (k+1)=l.take k++[v]:=by
    rw[List.take_succ_eq_append_getElem h]
    congr 2
    rw[←hv,List.getD_eq_getElem?_getD,List.getElem?_eq_getElem h];rfl
  have:=elI_snoc (l.take k) v j (by rw[hl];exact hj)
  rw[hl]at this
  rw[e,this]
theorem rayL_get (rows:List (List Int)) (n k:Nat) (h:k<n):(rayL rows n).getD k 0=rayX rows n k:=by
  simp[rayL,List.getD_eq_getElem?_getD,List.getElem?_map,List.getElem?_range h]
theorem negW_get (l:List Int) (k:Nat) (h:k<l.length):(negW l).getD k 0=W (0-l.getD k 0):=by
  simp[negW,List.getD_eq_getElem?_getD,List.getElem?_map,List.getElem?_eq_getElem h]
theorem divX_get (g:Int) (l:List Int) (k:Nat) (h:k<l.length):(divX g l).getD k 0=W ((l.getD k 0).tdiv (max1 g)):=by
  simp[divX,List.getD_eq_getElem?_getD,List.getElem?_map,List.getElem?_eq_getElem h]
def mixE (l m:List Int) (k j:Nat):List Value:=[I (if j<k then m.getD j 0 else l.getD j 0)]
theorem max1_ne (g:Int):max1 g≠0:=by unfold max1;split<;>omega
theorem mixE_step (l:List Int) (g:Int) (j q:Nat) (hj:j<l.length):mixE l (divX g l) (j+1) q=bif Nat.beq q (0+(j:Int).toNat) then [Value.int .i64 (IntKind.i64.wrap ((if 0+(j:Int).toNat<j then (divX g l).getD (0+(j:Int).toNat) 0 else l.getD (0+(j:Int).toNat) 0).tdiv (if 1>g then 1 else g)))] else mixE l (divX g l) j q:=by
  rw[Int.toNat_natCast,Nat.zero_add,if_neg (Nat.lt_irrefl j)]
  by_cases e:q=j
  · subst e
    rw[Nat.beq_refl,cond_true,mixE,if_pos (Nat.lt_succ_self q),divX_get g l q hj]
    rfl
  · rw[nbeq e,cond_false]
    unfold mixE
    by_cases h:q<j
    · rw[if_pos h,if_pos (by omega)]
    · rw[if_neg h,if_neg (by omega)]
theorem mixE_all (l r:List Int) (n q:Nat) (h:q<n):mixE l r n q=elI r q:=by rw[mixE,if_pos h];rfl
theorem ray_round (L:List Cond) (AL A5:Option Addr) (cL c5:Nat) (vs:Nat→Value) (m b1 b2 g3 l0 l lo:Nat) (W2:World) (T:List Nat) (J:List (List Int)→(Nat→Prop)→World→Prop) (s:List (List Int)) (Z S2:Nat→Prop) (R2:World→Prop) (set:List Int)
    (hb1:∀w,R2 w→w.heap[b1]?=some (.cells #[.slice AL L.length cL] 59 (0,0))) (hb2:∀w,R2 w→w.heap[b2]?=some (.cells #[I ((m+1:Nat):Int)] 3 (0,0))) (hg3:∀w,R2 w→w.heap[g3]?=some (.cells #[.func (.yield l0) #[] #[]] 67 (0,0)))
    (hcon:∀w,R2 w→ConsAt w (.slice AL L.length cL) L vs) (hvs:∀i,i<L.length→∃A c,vs i=.slice A (cAt L i).1.length c) (hSL:∀k,sb (.slice AL L.length cL) k→S2 k) (hTs:∀k∈T,¬S2 k) (hT5:∀k∈T,¬sb (.slice A5 set.length c5) k) (hTW:∀k∈T,k<W2.heap.size)
    (hRd:Rounds Try.prog l0 T (RelL lo) (raysM L (m+1)) J W2) (hlo:lo≤W2.heap.size) (hL:L.length≤8) (hn:m+1≤8) (hrow:∀c∈L,c.1.length=m+1) (hlen:set.length=m) (hin:∀x∈set,0≤x∧x<L.length) (hmem:set∈chooseM L.length m):
    G Try.prog ⟨W2,borT 1000 T,102,some l,[]⟩ (roundK W2 S2 R2 J (s++raysOf L (m+1) set) Z) body81
      (St.of [(1,.v (.c (.k (Pt b1)))),(2,.v (.c (.k (Pt b2)))),(3,.v (.c (.k (Pt g3)))),(4,.v (.c (.k (.slice A5 set.length c5))))] [(1,.say S2 R2),(2,.say Z (J s Z)),(5,.say (sb (.slice A5 set.length c5)) (fun w=>IntsAt w (.slice A5 set.length c5) set))]):=by
  refine G.block (id:=1) ?_
  refine G.seqR tfine rfl trivial ?_
  refine G.seq ?_
  refine G.seqR tfine rfl trivial ?_
  refine G.openSay (el:=elI set) (sz:=1) 5 702 21 rfl (fun w h=>by obtain⟨A',c',e,h1,_⟩:=h;cases e;exact h1) (fun k hk=>hk) rfl rfl rfl ?_
  obtain⟨us,hus⟩:∃us:Nat→Value,us=fun j=>vs (set.getD j 0).toNat:=⟨_,rfl⟩
  refine G.newNil 34 1 (fun j=>[us j]) rfl ?_
  refine G.block (G.loop (fun z:Nat×Nat=>St.of [(1,.v (.c (.k (Pt b1)))),(2,.v (.c (.k (Pt b2)))),(3,.v (.c (.k (Pt g3)))),(5,.v (.c (accV 34 1 z.1 z.2))),(21,.v (.c (.inp 702 A5 set.length c5))),(22,.v (.c (.k (I set.length)))),(23,.v (.c (.k (I z.1))))]
      [(1,.say S2 R2),(2,.say Z (J s Z)),(702,.ro 1 set.length (elI set)),(34,accB 22 1 z.1 z.2 (fun j=>[us j]))])
    (fun z=>z.1≤set.length∧z.1≤z.2) (fun z=>set.length-z.1) (0,0) ⟨Nat.zero_le _,Nat.le_refl _⟩ (St.le_of rfl ⟨⟨_,rfl,Blk.le_refl _⟩,⟨_,rfl,Blk.le_refl _⟩,⟨_,rfl,Blk.le_refl _⟩,⟨_,rfl,Blk.le_refl _⟩,trivial⟩ ⟨rfl,rfl,rfl,rfl,rfl,rfl,rfl,trivial⟩) ?_)
  rintro⟨i,cp⟩ ⟨hi,hcp⟩
  simp only at hi hcp
  refine G.seqR tfine rfl trivial ?_
  refine G.seq ?_
  refine G.cond (b:=decide ((i:Int)<(set.length:Int))) rfl (fun h2=>?_) (fun h2=>?_)
  · have h2:=of_decide_eq_true h2
    have hlt:i<set.length:=by omega
    refine G.skip ?_
    refine G.seq ?_
    refine G.block ?_
    refine G.seqR tfine rfl ⟨by omega,by omega,by omega,trivial⟩ ?_
    rw[Int.toNat_natCast]
    obtain⟨x,hx⟩:∃x,x=set.getD i 0:=⟨_,rfl⟩
    have hxm:x∈set:=by rw[hx,List.getD_eq_getElem?_getD,List.getElem?_eq_getElem hlt];exact List.getElem_mem hlt
    obtain⟨q,hq⟩:∃q:Nat,x=(q:Int):=⟨x.toNat,by have:=hin x hxm;omega⟩
    have hql:q<L.length:=by have:=hin x hxm;omega
    have husi:us i=vs q:=by rw[hus];simp only;rw[←hx,hq];rfl
    rw[←hx,hq]
    refine G.region_lit ?_
    refine GO.moveAny tfine rfl (.inl rfl) rfl rfl rfl ?_
    refine GO.steps (Steps.loadOpen tfine 1 721 AL L.length cL 2 (elC L vs) rfl rfl rfl rfl rfl rfl hb1 rfl rfl rfl (fun w h=>by obtain⟨A',c',e,h1,_⟩:=hcon w h;cases e;exact h1) hSL rfl rfl) ?_
    obtain⟨Aq,cq,hvq⟩:=hvs q hql
    refine GO.firstN tfine 4 rfl ⟨by omega,by omega,by omega,trivial⟩ ?_
    rw[Int.toNat_natCast]
    refine GO.weaken (st':=St.of [(1,.v (.c (.k (Pt b1)))),(2,.v (.c (.k (Pt b2)))),(3,.v (.c (.k (Pt g3)))),(21,.v (.c (.inp 702 A5 set.length c5))),(22,.v (.c (.k (I set.length)))),(23,.v (.c (.k (I i)))),(27,.v (.c (accV 34 1 i cp))),(32,.v (.c (.k (.slice Aq (cAt L q).1.length cq))))] [(1,.say S2 R2),(2,.say Z (J s Z)),(702,.ro 1 set.length (elI set)),(34,accB 22 1 i cp (fun j=>[us j]))]) (St.le_of (by cases i<;>rfl) ⟨⟨_,rfl,Blk.le_refl _⟩,⟨_,rfl,Blk.le_refl _⟩,⟨_,rfl,Blk.le_refl _⟩,⟨_,rfl,Blk.le_refl _⟩,trivial⟩ ⟨rfl,rfl,rfl,rfl,rfl,rfl,rfl,by rw[←hvq];rfl,trivial⟩) ?_
    refine GO.more tfine rfl trivial ?_
    refine GO.appendAccB (n:=i) (c:=cp) (el:=fun j=>[us j]) [.slice Aq (cAt L q).1.length cq] [(1,.v (.c (.k (Pt b1)))),(2,.v (.c (.k (Pt b2)))),(3,.v (.c (.k (Pt g3)))),(21,.v (.c (.inp 702 A5 set.length c5))),(22,.v (.c (.k (I set.length)))),(23,.v (.c (.k (I i))))] [(1,.say S2 R2),(2,.say Z (J s Z)),(702,.ro 1 set.length (elI set))] apLL rfl rfl rfl rfl rfl rfl rfl rfl rfl rfl (fun u hu=>by simp at hu;subst hu;rfl)
      (St.le_of rfl ⟨⟨_,rfl,Blk.le_refl _⟩,⟨_,rfl,Blk.le_refl _⟩,⟨_,rfl,Blk.le_refl _⟩,trivial⟩ ⟨rfl,rfl,rfl,rfl,rfl,rfl,trivial⟩) (subM.fr ⟨rfl,nx rfl,rfl,nx rfl,rfl,nx rfl,trivial⟩) (fun k hk=>rfl) (by unfold maxLen;omega) (by omega) fun c' hc'=>?_
    refine GO.fin tfine rfl trivial ?_
    refine G.reg tfine rfl trivial ?_
    rw[IntWalk.i64_in ((i:Int)+1) (by omega)]
    refine⟨(i+1,c'),⟨by simp only;omega,hc'⟩,(by show set.length-(i+1)<set.length-i;omega),?_⟩
    exact St.le_of rfl ⟨⟨_,rfl,Blk.le_refl _⟩,⟨_,rfl,Blk.le_refl _⟩,⟨_,rfl,Blk.le_refl _⟩,⟨_,rfl,rfl,rfl,Nat.le_refl _,(fun j hj=>by
      have hj:j<i+1:=hj
      show [us j]=elN (fun j=>[us j]) i [_] j
      by_cases e:j=i
      · subst e;rw[elN_eq,husi,hvq]
      · rw[elN_lt (by omega)]),Nat.le_refl _⟩,trivial⟩ ⟨rfl,rfl,rfl,rfl,rfl,rfl,by simp[up,I],trivial⟩
  have h2:=of_decide_eq_false h2
  have:i=set.length:=by omega
  subst this
  refine G.exit ?_
  refine G.freezeAcc (n:=set.length) (c:=cp) 34 5 rfl rfl fun A hA=>?_
  obtain⟨rc,hrc⟩:∃rc,rc=accC set.length cp:=⟨_,rfl⟩
  have hrcl:set.length≤rc:=by rw[hrc];exact accC_le hcp
  rw[←hrc]
  clear hrc hi h2
  have hrr:=rowsR_rows L (m+1) set hrow hin
  have hus2:∀w,R2 w→∀j,j<set.length→IntsAt w (us j) ((rowsR L set).getD j []):=fun w hw j hj=>by
    rw[rowsR_get L set j hj,hus]
    have hjm:set.getD j 0∈set:=by rw[List.getD_eq_getElem?_getD,List.getElem?_eq_getElem hj];exact List.getElem_mem hj
    have:=hin _ hjm
    obtain⟨_,_,_,_,_,h⟩:=hcon w hw
    exact h _ (by omega)
  refine G.seq (G.region_lit ?_)
  refine GO.steps (Steps.allocVar (t:=100) (x:=8) (sz:=1) tfine rfl rfl rfl rfl rfl rfl rfl) ?_
  refine GO.nil ?_
  refine G.seq ?_
  refine G.seqC tfine rfl trivial ?_
  refine GO.steps (Steps.loadK tfine 1 [I ((m+1:Nat):Int)] rfl rfl rfl rfl rfl hb2 rfl rfl) ?_
  refine GO.fin tfine rfl trivial ?_
  refine G.newNil 833 1 (elI []) rfl ?_
  refine G.newNil 834 1 (elI []) rfl ?_
  obtain⟨R,hR⟩:∃R,R=rayL (rowsR L set) (m+1):=⟨_,rfl⟩
  have hRl:R.length=m+1:=by rw[hR];exact rayL_len _ _
  refine G.block (G.loop (fun z:Nat×Nat×Nat=>St.of [(1,.v (.c (.k (Pt b1)))),(2,.v (.c (.k (Pt b2)))),(3,.v (.c (.k (Pt g3)))),(5,.v (.c (.k (.slice A set.length rc)))),(8,.v (.c (.ptr 8 0 1 0))),(36,.v (.c (.k (I ((m+1:Nat):Int))))),(37,.v (.c (.k (I z.1))))]
      [(1,.say S2 R2),(2,.say Z (J s Z)),(34,.say (sb (.slice A set.length rc)) (fun w=>RdRow w A set.length 1 (fun j=>[us j]))),(8,.var 100 [accV 833 1 z.1 z.2.1,accV 834 1 z.1 z.2.2]),(833,accB 3 1 z.1 z.2.1 (elI (R.take z.1))),(834,accB 3 1 z.1 z.2.2 (elI ((negW R).take z.1)))])
    (fun z=>z.1≤m+1∧z.1≤z.2.1∧z.1≤z.2.2) (fun z=>m+1-z.1) (0,0,0) ⟨Nat.zero_le _,Nat.le_refl _,Nat.le_refl _⟩ (St.le_of rfl ⟨⟨_,rfl,Blk.le_refl _⟩,⟨_,rfl,Blk.le_refl _⟩,⟨_,rfl,Blk.le_refl _⟩,⟨_,rfl,Blk.le_refl _⟩,⟨_,rfl,Blk.le_refl _⟩,⟨_,rfl,Blk.le_refl _⟩,trivial⟩ ⟨rfl,rfl,rfl,rfl,rfl,rfl,rfl,trivial⟩) ?_)
  rintro⟨k,kp,kq⟩ ⟨hk,hkp,hkq⟩
  simp only at hk hkp hkq
  refine G.seqR tfine rfl trivial ?_
  refine G.seq ?_
  refine G.cond (b:=decide ((k:Int)<((m+1:Nat):Int))) rfl (fun h4=>?_) (fun h4=>?_)
  · have h4:=of_decide_eq_true h4
    have hkn:k<m+1:=by omega
    refine G.skip ?_
    refine G.seq ?_
    refine G.block ?_
    refine G.seqR tfine rfl trivial ?_
    refine G.seqC tfine rfl trivial ?_
    refine GO.steps (Steps.loadK tfine 1 [I ((m+1:Nat):Int)] rfl rfl rfl rfl rfl hb2 rfl rfl) ?_
    refine GO.steps (Steps.callOwnR 705 3 (m+1) 1 (elI (placesL (m+1))) rfl rfl rfl rfl rfl rfl rfl (fun args w=>Try.call77 args w) (fun m' hle ρ w hs hok=>placesO_any (m+1) w (by omega) (by omega))) ?_
    refine GO.more tfine rfl trivial ?_
    rw[IntWalk.i64_in ((k:Int)+1) (by omega)]
    refine GO.callTurnR 705 3 (m+1) m 1 W2.heap.size (elI (placesL (m+1))) (delF (elI (placesL (m+1))) k) rfl rfl rfl rfl rfl List.mem_cons_self (Nat.le_succ _) (fun args w=>Try.call82 args w) (fun m1 hle ρ w1 hs hok=>?_) ?_
    · have o:=hok _ List.mem_cons_self
      have e:=hs.rowAd (hle.at rfl) o (by omega)
      have:=deleteIs_any (ρ 705).1 (m+1) (ρ 755).1 k (elI (placesL (m+1))) w1 (hs.ownA (hle.at rfl)) hkn o.2.2.2 (fun q hq u hu=>by simp[elI]at hu;subst hu;rfl) (by omega)
      have e2:(List.map (AV.conc ρ) [AV.c (.row 705 (m+1) W2.heap.size),AV.c (.k (I k)),AV.c (.k (I ((k:Int)+1)))]++List.map (Cap.conc ρ) []).toArray=#[.slice (some ⟨(ρ 705).1,0,none⟩) (m+1) (ρ 755).1,I k,I ((k:Int)+1)]:=by
        simp[AV.conc,AC.conc,e]
      have e3:AC.conc ρ (.row 705 m W2.heap.size)=.slice (some ⟨(ρ 705).1,0,none⟩) m (ρ 755).1:=by
        simp[AC.conc,e]
      rw[←e2]at this
      rw[e3]
      exact this
    obtain⟨cols,hcols⟩:∃cols,cols=(placesL (m+1)).eraseIdx k:=⟨_,rfl⟩
    have hcl:cols.length=m:=by rw[hcols,List.length_eraseIdx,if_pos (by rw[placesL_len];exact hkn),placesL_len];omega
    have hcin:∀c∈cols,0≤c∧c<((m+1:Nat):Int):=fun c hc=>by rw[hcols]at hc;exact mem_placesL (List.mem_of_mem_eraseIdx hc)
    obtain⟨dt,hdt⟩:∃dt,dt=detC (rowsR L set) cols:=⟨_,rfl⟩
    refine GO.callPlain (v:=I dt) rfl rfl rfl rfl (fun args w=>Try.call76 args w) (fun ρ w hs hok=>?_) ?_
    · have hrd:=hs.rowA (n:=m) rfl (hok _ (List.mem_cons_of_mem _ List.mem_cons_self)) (Nat.le_refl _)
      have:=det_any (rowsR L set) cols (.slice A set.length rc) us (rowAd ρ 705) (ρ 755).1 w ⟨A,rc,by rw[rowsR_len],by rw[rowsR_len];exact (hs.ok 34 _ rfl).1,fun _=>by rw[rowsR_len];exact hrcl,fun i hi=>hus2 w (hs.ok 1 _ rfl).1 i (by rw[rowsR_len]at hi;exact hi)⟩
        (by rw[hcl];exact hrd.congr fun i hi=>by rw[hcols];exact elI_erase (placesL (m+1)) k i (by rw[placesL_len];omega) (by rw[placesL_len];exact hkn)) (by rw[hcl,rowsR_len];omega) (by rw[rowsR_len];omega) (fun c hc=>⟨(hcin c hc).1,fun r hr'=>by have:=hrr r hr';have:=(hcin c hc).2;omega⟩) (fun r hr'=>by have:=hrr r hr';omega)
      rw[hcl]at this
      rw[hdt]
      exact this
    refine GO.fin tfine rfl trivial ?_
    refine G.weaken (st':=St.of [(1,.v (.c (.k (Pt b1)))),(2,.v (.c (.k (Pt b2)))),(3,.v (.c (.k (Pt g3)))),(5,.v (.c (.k (.slice A set.length rc)))),(8,.v (.c (.ptr 8 0 1 0))),(9,.v (.c (.k (I k)))),(10,.v (.c (.k (I dt)))),(36,.v (.c (.k (I ((m+1:Nat):Int))))),(37,.v (.c (.k (I k))))]
        [(1,.say S2 R2),(2,.say Z (J s Z)),(34,.say (sb (.slice A set.length rc)) (fun w=>RdRow w A set.length 1 (fun j=>[us j]))),(8,.var 100 [accV 833 1 k kp,accV 834 1 k kq]),(833,accB 3 1 k kp (elI (R.take k))),(834,accB 3 1 k kq (elI ((negW R).take k)))])
      (St.le_of (by cases k<;>rfl) ⟨⟨_,rfl,Blk.le_refl _⟩,⟨_,rfl,Blk.le_refl _⟩,⟨_,rfl,Blk.le_refl _⟩,⟨_,rfl,Blk.le_refl _⟩,⟨_,rfl,Blk.le_refl _⟩,⟨_,rfl,Blk.le_refl _⟩,trivial⟩ ⟨rfl,rfl,rfl,rfl,rfl,rfl,rfl,rfl,rfl,trivial⟩) ?_
    have hdt2:rayX (rowsR L set) (m+1) k=if k % 2=1 then W (0-dt) else dt:=by rw[rayX,hdt,hcols]
    refine G.join (fun z:Int=>St.of [(1,.v (.c (.k (Pt b1)))),(2,.v (.c (.k (Pt b2)))),(3,.v (.c (.k (Pt g3)))),(5,.v (.c (.k (.slice A set.length rc)))),(8,.v (.c (.ptr 8 0 1 0))),(9,.v (.c (.k (I k)))),(10,.v (.c (.k (I z)))),(36,.v (.c (.k (I ((m+1:Nat):Int))))),(37,.v (.c (.k (I k))))]
        [(1,.say S2 R2),(2,.say Z (J s Z)),(34,.say (sb (.slice A set.length rc)) (fun w=>RdRow w A set.length 1 (fun j=>[us j]))),(8,.var 100 [accV 833 1 k kp,accV 834 1 k kq]),(833,accB 3 1 k kp (elI (R.take k))),(834,accB 3 1 k kq (elI ((negW R).take k)))])
      (fun z=>z=rayX (rowsR L set) (m+1) k) ?_ ?_
    · refine G.seqR tfine rfl ⟨by decide,trivial⟩ ?_
      have hrem:((k:Int).tmod 2==1)=decide (k % 2=1):=by
        have e:(k:Int).tmod 2=((k % 2:Nat):Int):=by rw[Int.tmod_eq_emod_of_nonneg (by omega)];omega
        rw[e,Bool.eq_iff_iff,beq_iff_eq,decide_eq_true_iff]
        omega
      refine G.cond (b:=decide (k % 2=1)) (congrArg (fun b=>TV.v (.c (.k (.bool b)))) hrem) (fun h=>?_) (fun h=>?_)
      · refine G.reg tfine rfl trivial ?_
        refine⟨W (0-dt),by rw[hdt2,if_pos (of_decide_eq_true h)],St.le_of (by cases k<;>rfl) ⟨⟨_,rfl,Blk.le_refl _⟩,⟨_,rfl,Blk.le_refl _⟩,⟨_,rfl,Blk.le_refl _⟩,⟨_,rfl,Blk.le_refl _⟩,⟨_,rfl,Blk.le_refl _⟩,⟨_,rfl,Blk.le_refl _⟩,trivial⟩ ⟨rfl,rfl,rfl,rfl,rfl,rfl,rfl,rfl,rfl,trivial⟩⟩
      · refine G.skip ?_
        refine⟨dt,by rw[hdt2,if_neg (of_decide_eq_false h)],St.le_of (by cases k<;>rfl) ⟨⟨_,rfl,Blk.le_refl _⟩,⟨_,rfl,Blk.le_refl _⟩,⟨_,rfl,Blk.le_refl _⟩,⟨_,rfl,Blk.le_refl _⟩,⟨_,rfl,Blk.le_refl _⟩,⟨_,rfl,Blk.le_refl _⟩,trivial⟩ ⟨rfl,rfl,rfl,rfl,rfl,rfl,rfl,rfl,rfl,trivial⟩⟩
    rintro v hv
    have hs0:=take_snoc R k v (by omega) (by rw[hR,rayL_get _ _ _ hkn,←hv])
    have hs1:=take_snoc (negW R) k (W (0-v)) (by rw[negW_len];omega) (by rw[negW_get _ _ (by omega),hR,rayL_get _ _ _ hkn,←hv])
    clear hdt2 hv
    rcases k with _|k
    · apply G.drawC (ch:=fun j=>match j with|4=>some (accF 833 57 (0+1) 1 3 (elN (elI (R.take 0)) 0 [I v]))|10=>some (accF 834 63 (0+1) 1 3 (elN (elI ((negW R).take 0)) 0 [I (W (0-v))]))|_=>none) (cls:=[0,1,0,4,15,0,32,0,128,384,1023,127,4095,8191,16383]) (X:=[(4,57),(4,833),(10,63),(10,834),(12,8),(14,8)]) hmix rfl rfl rfl
      · intro c
        refine GC.more tfine 0 rfl rfl rfl ⟨by decide,by decide,trivial⟩ ?_
        refine GC.choice 4 rfl _ rfl (StepsC.appendAcc (n:=0) (c:=kp) [I v] apT35 rfl rfl rfl rfl rfl rfl rfl rfl rfl rfl rfl rfl rfl (fun u hu=>by simp at hu;subst hu;rfl) (fun k hk=>rfl) (by unfold maxLen;omega) (by omega)) rfl accF_nm rfl ?_
        refine GC.more tfine 5 rfl rfl rfl ⟨by decide,by decide,trivial⟩ ?_
        refine GC.choice 10 rfl _ rfl (StepsC.appendAcc (n:=0) (c:=kq) [I (W (0-v))] apT35 rfl rfl rfl rfl rfl rfl rfl rfl rfl rfl rfl rfl rfl (fun u hu=>by simp at hu;subst hu;rfl) (fun k hk=>rfl) (by unfold maxLen;omega) (by omega)) rfl accF_nm rfl ?_
        refine GC.more tfine 11 rfl rfl rfl ?_ ?_
        · first|trivial|(simp only[AllP];and_intros<;>first|trivial|decide|omega)
        refine GC.nil ?_
        obtain⟨kp2,hkp2⟩:∃kp2,kp2=capN (0+1) (c 4):=⟨_,rfl⟩
        have hkl:0+1≤kp2:=by rw[hkp2];exact capN_le _ _
        obtain⟨kq2,hkq2⟩:∃kq2,kq2=capN (0+1) (c 10):=⟨_,rfl⟩
        have hkql:0+1≤kq2:=by rw[hkq2];exact capN_le _ _
        refine G.weaken (st':=St.of [(1,.v (.c (.k (Pt b1)))),(2,.v (.c (.k (Pt b2)))),(3,.v (.c (.k (Pt g3)))),(5,.v (.c (.k (.slice A set.length rc)))),(8,.v (.c (.ptr 8 0 1 0))),(36,.v (.c (.k (I ((m+1:Nat):Int))))),(37,.v (.c (.k (I (0:Nat)))))]
          [(1,.say S2 R2),(2,.say Z (J s Z)),(34,.say (sb (.slice A set.length rc)) (fun w=>RdRow w A set.length 1 (fun j=>[us j]))),(8,.var 100 [.slc 57 0 1 (0+1) kp2,.slc 63 0 1 (0+1) kq2]),(57,.arr 3 1 (0+1) (elN (elI (R.take 0)) 0 [I v]) ((kp2-(0+1))*1)),(63,.arr 3 1 (0+1) (elN (elI ((negW R).take 0)) 0 [I (W (0-v))]) ((kq2-(0+1))*1))])
          (St.le_of rfl ⟨⟨_,rfl,Blk.le_refl _⟩,⟨_,rfl,Blk.le_refl _⟩,⟨_,rfl,Blk.le_refl _⟩,⟨_,rfl,by rw[hkp2,hkq2];exact Blk.le_refl _⟩,⟨_,rfl,by rw[hkp2];exact Blk.le_refl _⟩,⟨_,rfl,by rw[hkq2];exact Blk.le_refl _⟩,trivial⟩ ⟨rfl,rfl,rfl,rfl,rfl,rfl,rfl,trivial⟩) ?_
        refine G.rn 57 833 rfl trivial rfl rfl rfl ?_
        refine G.rn 63 834 rfl trivial rfl rfl rfl ?_
        refine G.reg tfine rfl trivial ?_
        refine⟨(0+1,kp2,kq2),⟨by simp only;omega,hkl,hkql⟩,(by show m+1-(0+1)<m+1-0;omega),?_⟩
        exact St.le_of rfl ⟨⟨_,rfl,Blk.le_refl _⟩,⟨_,rfl,Blk.le_refl _⟩,⟨_,rfl,Blk.le_refl _⟩,⟨_,rfl,Blk.le_refl _⟩,⟨_,rfl,rfl,rfl,Nat.le_refl _,hs0,Nat.le_refl _⟩,⟨_,rfl,rfl,rfl,Nat.le_refl _,hs1,Nat.le_refl _⟩,trivial⟩ ⟨rfl,rfl,rfl,rfl,rfl,rfl,by first|rfl|(simp[up,I,rnS,rnTV,rnAV,rnAC];rw[IntWalk.i64_in _ (by omega)]),trivial⟩
      ·
        intro c c' j hj h
        have hj:j<15:=hj
        rcases j with _|_|_|_|_|_|_|_|_|_|_|_|_|_|_|j
        all_goals first|rfl|(show some _=some _;(try rw[h 4 (.inl rfl)]);(try rw[h 4 (.inr ⟨rfl,rfl⟩)]);(try rw[h 10 (.inl rfl)]);(try rw[h 10 (.inr ⟨rfl,rfl⟩)]);done)|exact absurd hj (by omega)
    · apply G.drawC (ch:=fun j=>match j with|4=>some (accF 833 57 ((k+1)+1) 1 3 (elN (elI (R.take (k+1))) (k+1) [I v]))|10=>some (accF 834 63 ((k+1)+1) 1 3 (elN (elI ((negW R).take (k+1))) (k+1) [I (W (0-v))]))|_=>none) (cls:=[0,1,0,4,15,0,32,0,128,384,1023,127,4095,8191,16383]) (X:=[(4,57),(4,833),(10,63),(10,834),(12,8),(14,8)]) hmix rfl rfl rfl
      · intro c
        refine GC.more tfine 0 rfl rfl rfl ⟨by decide,by decide,trivial⟩ ?_
        refine GC.choice 4 rfl _ rfl (StepsC.appendAcc (n:=(k+1)) (c:=kp) [I v] apT35 rfl rfl rfl rfl rfl rfl rfl rfl rfl rfl rfl rfl rfl (fun u hu=>by simp at hu;subst hu;rfl) (fun k hk=>rfl) (by unfold maxLen;omega) (by omega)) rfl accF_nm rfl ?_
        refine GC.more tfine 5 rfl rfl rfl ⟨by decide,by decide,trivial⟩ ?_
        refine GC.choice 10 rfl _ rfl (StepsC.appendAcc (n:=(k+1)) (c:=kq) [I (W (0-v))] apT35 rfl rfl rfl rfl rfl rfl rfl rfl rfl rfl rfl rfl rfl (fun u hu=>by simp at hu;subst hu;rfl) (fun k hk=>rfl) (by unfold maxLen;omega) (by omega)) rfl accF_nm rfl ?_
        refine GC.more tfine 11 rfl rfl rfl ?_ ?_
        · first|trivial|(simp only[AllP];and_intros<;>first|trivial|decide|omega)
        refine GC.nil ?_
        obtain⟨kp2,hkp2⟩:∃kp2,kp2=capN ((k+1)+1) (c 4):=⟨_,rfl⟩
        have hkl:(k+1)+1≤kp2:=by rw[hkp2];exact capN_le _ _
        obtain⟨kq2,hkq2⟩:∃kq2,kq2=capN ((k+1)+1) (c 10):=⟨_,rfl⟩
        have hkql:(k+1)+1≤kq2:=by rw[hkq2];exact capN_le _ _
        refine G.weaken (st':=St.of [(1,.v (.c (.k (Pt b1)))),(2,.v (.c (.k (Pt b2)))),(3,.v (.c (.k (Pt g3)))),(5,.v (.c (.k (.slice A set.length rc)))),(8,.v (.c (.ptr 8 0 1 0))),(36,.v (.c (.k (I ((m+1:Nat):Int))))),(37,.v (.c (.k (I ((k+1):Nat)))))]
          [(1,.say S2 R2),(2,.say Z (J s Z)),(34,.say (sb (.slice A set.length rc)) (fun w=>RdRow w A set.length 1 (fun j=>[us j]))),(8,.var 100 [.slc 57 0 1 ((k+1)+1) kp2,.slc 63 0 1 ((k+1)+1) kq2]),(57,.arr 3 1 ((k+1)+1) (elN (elI (R.take (k+1))) (k+1) [I v]) ((kp2-((k+1)+1))*1)),(63,.arr 3 1 ((k+1)+1) (elN (elI ((negW R).take (k+1))) (k+1) [I (W (0-v))]) ((kq2-((k+1)+1))*1))])
          (St.le_of rfl ⟨⟨_,rfl,Blk.le_refl _⟩,⟨_,rfl,Blk.le_refl _⟩,⟨_,rfl,Blk.le_refl _⟩,⟨_,rfl,by rw[hkp2,hkq2];exact Blk.le_refl _⟩,⟨_,rfl,by rw[hkp2];exact Blk.le_refl _⟩,⟨_,rfl,by rw[hkq2];exact Blk.le_refl _⟩,trivial⟩ ⟨rfl,rfl,rfl,rfl,rfl,rfl,rfl,trivial⟩) ?_
        refine G.rn 57 833 rfl trivial rfl rfl rfl ?_
        refine G.rn 63 834 rfl trivial rfl rfl rfl ?_
        refine G.reg tfine rfl trivial ?_
        refine⟨((k+1)+1,kp2,kq2),⟨by simp only;omega,hkl,hkql⟩,(by show m+1-((k+1)+1)<m+1-(k+1);omega),?_⟩
        exact St.le_of rfl ⟨⟨_,rfl,Blk.le_refl _⟩,⟨_,rfl,Blk.le_refl _⟩,⟨_,rfl,Blk.le_refl _⟩,⟨_,rfl,Blk.le_refl _⟩,⟨_,rfl,rfl,rfl,Nat.le_refl _,hs0,Nat.le_refl _⟩,⟨_,rfl,rfl,rfl,Nat.le_refl _,hs1,Nat.le_refl _⟩,trivial⟩ ⟨rfl,rfl,rfl,rfl,rfl,rfl,by first|rfl|(simp[up,I,rnS,rnTV,rnAV,rnAC];rw[IntWalk.i64_in _ (by omega)]),trivial⟩
      ·
        intro c c' j hj h
        have hj:j<15:=hj
        rcases j with _|_|_|_|_|_|_|_|_|_|_|_|_|_|_|j
        all_goals first|rfl|(show some _=some _;(try rw[h 4 (.inl rfl)]);(try rw[h 4 (.inr ⟨rfl,rfl⟩)]);(try rw[h 10 (.inl rfl)]);(try rw[h 10 (.inr ⟨rfl,rfl⟩)]);done)|exact absurd hj (by omega)
  · have h4:=of_decide_eq_false h4
    have e:k=m+1:=by omega
    subst e
    refine G.exit ?_
    rw[List.take_of_length_le (by rw[hRl];exact Nat.le_refl _),List.take_of_length_le (by rw[negW_len,hRl];exact Nat.le_refl _)]
    have hNl:(negW R).length=m+1:=by rw[negW_len,hRl]
    obtain⟨g,hg⟩:∃g:Int,g=divM R:=⟨_,rfl⟩
    refine G.weaken (st':=St.of [(1,.v (.c (.k (Pt b1)))),(2,.v (.c (.k (Pt b2)))),(3,.v (.c (.k (Pt g3)))),(8,.v (.c (.ptr 8 0 1 0)))]
        [(1,.say S2 R2),(2,.say Z (J s Z)),(8,.var 100 [.slc 833 0 1 (m+1) kp,.slc 834 0 1 (m+1) kq]),(833,.arr 3 1 (m+1) (elI R) ((kp-(m+1))*1)),(834,.arr 3 1 (m+1) (elI (negW R)) ((kq-(m+1))*1))])
      (St.le_of rfl ⟨⟨_,rfl,Blk.le_refl _⟩,⟨_,rfl,Blk.le_refl _⟩,⟨_,rfl,Blk.le_refl _⟩,⟨_,rfl,Blk.le_refl _⟩,⟨_,rfl,Blk.le_refl _⟩,trivial⟩ ⟨rfl,rfl,rfl,rfl,trivial⟩) ?_
    refine G.seqC tfine rfl ⟨by decide,by decide,trivial⟩ ?_
    refine GO.callPlain (v:=I g) rfl rfl rfl rfl (fun args w=>Try.call83 args w) (fun ρ w hs hok=>?_) ?_
    · have hC:=hs.rdArr (x:=833) rfl 0 (m+1) (by omega)
      have:=div_any _ kp R w (by rw[hRl];exact hC.congr fun i hi=>by rw[Nat.zero_add]) (by omega)
      rw[hRl,←hg]at this
      exact this
    refine GO.fin tfine rfl trivial ?_
    refine G.seqR tfine rfl trivial ?_
    obtain⟨R0,hR0⟩:∃R0,R0=divX g R:=⟨_,rfl⟩
    obtain⟨R1,hR1⟩:∃R1,R1=divX g (negW R):=⟨_,rfl⟩
    have hR0l:R0.length=m+1:=by rw[hR0,divX_len,hRl]
    have hR1l:R1.length=m+1:=by rw[hR1,divX_len,hNl]
    have hro:raysOf L (m+1) set=(bif (decide (g>0)&&keepsM L R0 1) then [R0] else [])++(bif (decide (g>0)&&keepsM L R1 1) then [R1] else []):=by
      simp only[raysOf,rayOk,ray0,ray1,←hR,←hg,←hR0,←hR1]
    have hm0:(decide (g>0)&&keepsM L R0 1)=true→R0∈raysM L (m+1):=fun e=>List.mem_flatMap.2 ⟨set,hmem,by rw[hro,e];simp⟩
    have hm1:(decide (g>0)&&keepsM L R1 1)=true→R1∈raysM L (m+1):=fun e=>List.mem_flatMap.2 ⟨set,hmem,by rw[hro,e];simp⟩
    rw[hro]
    refine G.block (G.rounds (GI.round ?_))
    refine G.seqR tfine rfl trivial ?_
    refine G.seq (G.cond_true rfl ?_)
    refine G.skip ?_
    refine G.seq (G.block ?_)
    refine G.seqR tfine rfl ⟨by decide,by decide,trivial⟩ ?_
    refine G.seq ?_
    refine G.seqR tfine rfl trivial ?_
    refine G.block (G.loop (fun j:Nat=>St.of [(1,.v (.c (.k (Pt b1)))),(2,.v (.c (.k (Pt b2)))),(3,.v (.c (.k (Pt g3)))),(11,.v (.c (.k (I g)))),(13,.v (.c (.slc 833 0 1 (m+1) kp))),(70,.v (.agg [.slc 833 0 1 (m+1) kp,.slc 834 0 1 (m+1) kq])),(71,.v (.c (.k (I 0)))),(75,.v (.c (.k (I ((m+1:Nat):Int))))),(76,.v (.c (.k (I j))))]
        [(1,.say S2 R2),(2,.say Z (J s Z)),(833,.arr 3 1 (m+1) (mixE R R0 j) ((kp-(m+1))*1)),(834,.arr 3 1 (m+1) (elI (negW R)) ((kq-(m+1))*1))])
      (fun j=>j≤m+1) (fun j=>m+1-j) 0 (Nat.zero_le _) (St.le_of rfl ⟨⟨_,rfl,Blk.le_refl _⟩,⟨_,rfl,Blk.le_refl _⟩,⟨_,rfl,rfl,rfl,Nat.le_refl _,(fun j hj=>rfl),Nat.le_refl _⟩,⟨_,rfl,Blk.le_refl _⟩,trivial⟩ ⟨rfl,rfl,rfl,rfl,rfl,rfl,rfl,rfl,rfl,trivial⟩) ?_)
    rintro j hj
    refine G.seqR tfine rfl trivial ?_
    refine G.seq ?_
    refine G.cond (b:=decide ((j:Int)<((m+1:Nat):Int))) rfl (fun h5=>?_) (fun h5=>?_)
    · have h5:=of_decide_eq_true h5
      have hjn:j<m+1:=by omega
      refine G.skip ?_
      refine G.seq ?_
      refine G.block ?_
      refine G.seqR tfine rfl trivial ?_
      refine G.reg tfine rfl ?_ ?_
      · have hmx:=max1_ne g
        unfold max1 at hmx
        exact⟨by omega,by omega,by omega,hmx,by omega,by omega,by omega,trivial⟩
      refine G.reg tfine rfl trivial ?_
      rw[IntWalk.i64_in ((j:Int)+1) (by omega)]
      refine⟨j+1,by omega,(by show m+1-(j+1)<m+1-j;omega),?_⟩
      exact St.le_of rfl ⟨⟨_,rfl,Blk.le_refl _⟩,⟨_,rfl,Blk.le_refl _⟩,⟨_,rfl,rfl,rfl,Nat.le_refl _,(fun q hq=>by
        have:=mixE_step R g j q (by omega)
        rw[←hR0]at this
        exact this),Nat.le_refl _⟩,⟨_,rfl,Blk.le_refl _⟩,trivial⟩ ⟨rfl,rfl,rfl,rfl,rfl,rfl,rfl,rfl,by simp[up,I],trivial⟩
    have h5:=of_decide_eq_false h5
    have e:j=m+1:=by omega
    subst e
    refine G.exit ?_
    refine G.freezeArr 833 13 rfl rfl (Nat.le_refl _) fun f833 hf833=>?_
    have hf833:W2.heap.size≤f833:=by
      rcases hf833 with h|h
      · exact h
      · have:=(borT_mem h).1
        simp only at this
        omega
    have hI833:∀w,RdRow w (some ⟨f833,0,none⟩) (m+1) 1 (mixE R R0 (m+1))→IntsAt w (.slice (some ⟨f833,0,none⟩) (m+1) kp) R0:=fun w h=>by
      have:R0.length=m+1:=hR0l
      exact⟨some ⟨f833,0,none⟩,kp,by rw[this],by rw[this];exact h.congr fun i hi=>(mixE_all R R0 (m+1) i hi).symm,fun _=>by rw[this];exact hkp⟩
    refine G.weaken (st':=St.of [(1,.v (.c (.k (Pt b1)))),(2,.v (.c (.k (Pt b2)))),(3,.v (.c (.k (Pt g3)))),(11,.v (.c (.k (I g)))),(13,.v (.c (.k (.slice (some ⟨f833,0,none⟩) (m+1) kp)))),(70,.v (.agg [.slc 833 0 1 (m+1) kp,.slc 834 0 1 (m+1) kq])),(71,.v (.c (.k (I 0))))]
        [(1,.say S2 R2),(2,.say Z (J s Z)),(833,.say (·=f833) (fun w=>RdRow w (some ⟨f833,0,none⟩) (m+1) 1 (mixE R R0 (m+1)))),(834,.arr 3 1 (m+1) (elI (negW R)) ((kq-(m+1))*1))]) (St.le_of rfl ⟨⟨_,rfl,Blk.le_refl _⟩,⟨_,rfl,Blk.le_refl _⟩,⟨_,rfl,Blk.le_refl _⟩,⟨_,rfl,Blk.le_refl _⟩,trivial⟩ ⟨rfl,rfl,rfl,rfl,rfl,rfl,rfl,trivial⟩) ?_
    refine G.seqC tfine rfl trivial ?_
    refine GO.steps (Steps.loadKG tfine 1 [.slice AL L.length cL] rfl rfl trivial rfl rfl rfl rfl hb1 rfl rfl) ?_
    refine GO.more tfine rfl trivial ?_
    refine GO.callGuard (.bool (keepsM L R0 1)) rfl rfl rfl ⟨fun h=>h,fun h=>h,trivial⟩ rfl rfl (fun args w=>Try.call78 args w) rfl (fun hct m' hle ρ w hs hok=>?_) ?_
    · have hI:=hI833 w (hs.ok 833 _ (hle.at rfl)).1
      obtain⟨A',c',e',h1,_⟩:=hI
      have:R0.length=m+1:=hR0l
      have hk:=keeps_any (.slice AL L.length cL) L vs A' c' R0 1 w (hcon w (hs.ok 1 _ (hle.at rfl)).1) h1 (fun i hi=>by rw[hrow _ (cAt_mem hi),this];exact Nat.le_refl _) (by omega) (by omega)
      rw[←e']at hk
      exact hk
    generalize hp:decide (g>0)=p at hm0 hm1 ⊢
    generalize hq0:keepsM L R0 1=q0 at hm0 ⊢
    generalize hq1:keepsM L R1 1=q1 at hm1 ⊢
    refine GO.more tfine rfl ?_ ?_
    · simp only[AllP,condB];and_intros<;>first|trivial|(cases p<;>cases q0<;>simp)
    refine GO.steps (Steps.loadKG tfine 1 [.func (.yield l0) #[] #[]] rfl rfl trivial rfl rfl rfl rfl hg3 rfl rfl) ?_
    refine GO.more tfine rfl trivial ?_
    refine GO.yieldTF 2 s R0 Z hRd (fun h=>hm0 (by cases p<;>cases q0<;>first|rfl|exact h)) rfl hTW rfl rfl rfl ⟨fun h=>h,fun h=>h,trivial⟩ rfl rfl rfl rfl rfl rfl (fun hct=>calm_of (T:=T) (xJ:=2) (ml:=[(1,.say S2 R2),(2,.say Z (J s Z)),(833,.say (·=f833) (fun w=>RdRow w (some ⟨f833,0,none⟩) (m+1) 1 (mixE R R0 (m+1)))),(834,.arr 3 1 (m+1) (elI (negW R)) ((kq-(m+1))*1))]) ⟨.inr ⟨(by show (1:Nat)<1000;decide),hTs⟩,.inl rfl,.inr ⟨(by show (833:Nat)<1000;decide),fun k hk e=>by have:=hTW k hk;omega⟩,.inr ⟨(by show (834:Nat)<1000;decide),trivial⟩,trivial⟩) (fun hct ρ w hs hok=>?_) fun Z1 hZ1=>?_
    · obtain⟨f1,f2⟩:=hs.sayAt (X:=833) rfl
      have hv:∀k,vbk (.slice (some ⟨f833,0,none⟩) (m+1) kp) k→k=f833:=by
        rintro k ⟨_,a,e,rfl⟩
        cases e;rfl
      exact⟨⟨hI833 w f1,fun k hk=>by have:=hv k hk;omega⟩,fun k hk=>by
        have e:=hv k hk
        exact⟨by rw[e];exact hf833,f2 k e⟩⟩
    refine GO.fin tfine rfl ?_ ?_
    · simp only[AllP,condB];and_intros<;>first|trivial|(cases p<;>cases q0<;>simp)
    refine G.cond_false (by cases p<;>cases q0<;>rfl) ?_
    refine G.skip ?_
    refine G.reg tfine rfl trivial ?_
    refine GI.round ?_
    refine G.seqR tfine rfl trivial ?_
    refine G.seq (G.cond_true rfl ?_)
    refine G.skip ?_
    refine G.seq (G.block ?_)
    refine G.seqR tfine rfl ⟨by decide,by decide,trivial⟩ ?_
    refine G.seq ?_
    refine G.seqR tfine rfl trivial ?_
    refine G.block (G.loop (fun j:Nat=>St.of [(1,.v (.c (.k (Pt b1)))),(2,.v (.c (.k (Pt b2)))),(3,.v (.c (.k (Pt g3)))),(11,.v (.c (.k (I g)))),(13,.v (.c (.slc 834 0 1 (m+1) kq))),(70,.v (.agg [.slc 833 0 1 (m+1) kp,.slc 834 0 1 (m+1) kq])),(71,.v (.c (.k (I 1)))),(75,.v (.c (.k (I ((m+1:Nat):Int))))),(76,.v (.c (.k (I j))))]
        [(1,.say S2 R2),(2,.say Z1 (J (bif (p&&q0) then s++[R0] else s) Z1)),(834,.arr 3 1 (m+1) (mixE (negW R) R1 j) ((kq-(m+1))*1)),(833,.say (·=f833) (fun w=>RdRow w (some ⟨f833,0,none⟩) (m+1) 1 (mixE R R0 (m+1))))])
      (fun j=>j≤m+1) (fun j=>m+1-j) 0 (Nat.zero_le _) (St.le_of rfl ⟨⟨_,rfl,Blk.le_refl _⟩,⟨_,rfl,(by cases p<;>cases q0<;>exact Blk.le_refl _)⟩,⟨_,rfl,rfl,rfl,Nat.le_refl _,(fun j hj=>rfl),Nat.le_refl _⟩,⟨_,rfl,Blk.le_refl _⟩,trivial⟩ ⟨rfl,rfl,rfl,rfl,rfl,rfl,rfl,rfl,rfl,trivial⟩) ?_)
    rintro j hj
    refine G.seqR tfine rfl trivial ?_
    refine G.seq ?_
    refine G.cond (b:=decide ((j:Int)<((m+1:Nat):Int))) rfl (fun h5=>?_) (fun h5=>?_)
    · have h5:=of_decide_eq_true h5
      have hjn:j<m+1:=by omega
      refine G.skip ?_
      refine G.seq ?_
      refine G.block ?_
      refine G.seqR tfine rfl trivial ?_
      refine G.reg tfine rfl ?_ ?_
      · have hmx:=max1_ne g
        unfold max1 at hmx
        exact⟨by omega,by omega,by omega,hmx,by omega,by omega,by omega,trivial⟩
      refine G.reg tfine rfl trivial ?_
      rw[IntWalk.i64_in ((j:Int)+1) (by omega)]
      refine⟨j+1,by omega,(by show m+1-(j+1)<m+1-j;omega),?_⟩
      exact St.le_of rfl ⟨⟨_,rfl,Blk.le_refl _⟩,⟨_,rfl,Blk.le_refl _⟩,⟨_,rfl,rfl,rfl,Nat.le_refl _,(fun q hq=>by
        have:=mixE_step (negW R) g j q (by omega)
        rw[←hR1]at this
        exact this),Nat.le_refl _⟩,⟨_,rfl,Blk.le_refl _⟩,trivial⟩ ⟨rfl,rfl,rfl,rfl,rfl,rfl,rfl,rfl,by simp[up,I],trivial⟩
    have h5:=of_decide_eq_false h5
    have e:j=m+1:=by omega
    subst e
    refine G.exit ?_
    refine G.freezeArr 834 13 rfl rfl (Nat.le_refl _) fun f834 hf834=>?_
    have hf834:W2.heap.size≤f834:=by
      rcases hf834 with h|h
      · exact h
      · have:=(borT_mem h).1
        simp only at this
        omega
    have hI834:∀w,RdRow w (some ⟨f834,0,none⟩) (m+1) 1 (mixE (negW R) R1 (m+1))→IntsAt w (.slice (some ⟨f834,0,none⟩) (m+1) kq) R1:=fun w h=>by
      have:R1.length=m+1:=hR1l
      exact⟨some ⟨f834,0,none⟩,kq,by rw[this],by rw[this];exact h.congr fun i hi=>(mixE_all (negW R) R1 (m+1) i hi).symm,fun _=>by rw[this];exact hkq⟩
    refine G.weaken (st':=St.of [(1,.v (.c (.k (Pt b1)))),(2,.v (.c (.k (Pt b2)))),(3,.v (.c (.k (Pt g3)))),(11,.v (.c (.k (I g)))),(13,.v (.c (.k (.slice (some ⟨f834,0,none⟩) (m+1) kq)))),(70,.v (.agg [.slc 833 0 1 (m+1) kp,.slc 834 0 1 (m+1) kq])),(71,.v (.c (.k (I 1))))]
        [(1,.say S2 R2),(2,.say Z1 (J (bif (p&&q0) then s++[R0] else s) Z1)),(834,.say (·=f834) (fun w=>RdRow w (some ⟨f834,0,none⟩) (m+1) 1 (mixE (negW R) R1 (m+1)))),(833,.say (·=f833) (fun w=>RdRow w (some ⟨f833,0,none⟩) (m+1) 1 (mixE R R0 (m+1))))]) (St.le_of rfl ⟨⟨_,rfl,Blk.le_refl _⟩,⟨_,rfl,Blk.le_refl _⟩,⟨_,rfl,Blk.le_refl _⟩,⟨_,rfl,Blk.le_refl _⟩,trivial⟩ ⟨rfl,rfl,rfl,rfl,rfl,rfl,rfl,trivial⟩) ?_
    refine G.seqC tfine rfl trivial ?_
    refine GO.steps (Steps.loadKG tfine 1 [.slice AL L.length cL] rfl rfl trivial rfl rfl rfl rfl hb1 rfl rfl) ?_
    refine GO.more tfine rfl trivial ?_
    refine GO.callGuard (.bool (keepsM L R1 1)) rfl rfl rfl ⟨fun h=>h,fun h=>h,trivial⟩ rfl rfl (fun args w=>Try.call78 args w) rfl (fun hct m' hle ρ w hs hok=>?_) ?_
    · have hI:=hI834 w (hs.ok 834 _ (hle.at rfl)).1
      obtain⟨A',c',e',h1,_⟩:=hI
      have:R1.length=m+1:=hR1l
      have hk:=keeps_any (.slice AL L.length cL) L vs A' c' R1 1 w (hcon w (hs.ok 1 _ (hle.at rfl)).1) h1 (fun i hi=>by rw[hrow _ (cAt_mem hi),this];exact Nat.le_refl _) (by omega) (by omega)
      rw[←e']at hk
      exact hk
    simp only[hp,hq1]
    refine GO.more tfine rfl ?_ ?_
    · simp only[AllP,condB];and_intros<;>first|trivial|(cases p<;>cases q1<;>simp)
    refine GO.steps (Steps.loadKG tfine 1 [.func (.yield l0) #[] #[]] rfl rfl trivial rfl rfl rfl rfl hg3 rfl rfl) ?_
    refine GO.more tfine rfl trivial ?_
    refine GO.yieldTF 2 (bif (p&&q0) then s++[R0] else s) R1 Z1 hRd (fun h=>hm1 (by cases p<;>cases q1<;>first|rfl|exact h)) rfl hTW rfl rfl rfl ⟨fun h=>h,fun h=>h,trivial⟩ rfl rfl rfl rfl rfl rfl (fun hct=>calm_of (T:=T) (xJ:=2) (ml:=[(1,.say S2 R2),(2,.say Z1 (J (bif (p&&q0) then s++[R0] else s) Z1)),(834,.say (·=f834) (fun w=>RdRow w (some ⟨f834,0,none⟩) (m+1) 1 (mixE (negW R) R1 (m+1)))),(833,.say (·=f833) (fun w=>RdRow w (some ⟨f833,0,none⟩) (m+1) 1 (mixE R R0 (m+1))))]) ⟨.inr ⟨(by show (1:Nat)<1000;decide),hTs⟩,.inl rfl,.inr ⟨(by show (834:Nat)<1000;decide),fun k hk e=>by have:=hTW k hk;omega⟩,.inr ⟨(by show (833:Nat)<1000;decide),fun k hk e=>by have:=hTW k hk;omega⟩,trivial⟩) (fun hct ρ w hs hok=>?_) fun Z2 hZ2=>?_
    · obtain⟨f1,f2⟩:=hs.sayAt (X:=834) rfl
      have hv:∀k,vbk (.slice (some ⟨f834,0,none⟩) (m+1) kq) k→k=f834:=by
        rintro k ⟨_,a,e,rfl⟩
        cases e;rfl
      exact⟨⟨hI834 w f1,fun k hk=>by have:=hv k hk;omega⟩,fun k hk=>by
        have e:=hv k hk
        exact⟨by rw[e];exact hf834,f2 k e⟩⟩
    refine GO.fin tfine rfl ?_ ?_
    · simp only[AllP,condB];and_intros<;>first|trivial|(cases p<;>cases q1<;>simp)
    refine G.cond_false (by cases p<;>cases q1<;>rfl) ?_
    refine G.skip ?_
    refine G.reg tfine rfl trivial ?_
    refine GI.round ?_
    refine G.seqR tfine rfl trivial ?_
    refine G.seq (G.cond_false rfl ?_)
    have e:s++((bif (p&&q0) then [R0] else [])++(bif (p&&q1) then [R1] else []))=bif (p&&q1) then (bif (p&&q0) then s++[R0] else s)++[R1] else (bif (p&&q0) then s++[R0] else s):=by cases p<;>cases q0<;>cases q1<;>simp
    rw[e]
    refine G.exit ?_
    refine⟨rfl,Z2,by cases p<;>cases q0<;>cases q1<;>rfl,fun k hk=>?_,rfl⟩
    rcases hZ2 k hk with h|h
    · exact hZ1 k h
    · exact .inr h
end Go.Proofs.Ytafhnfcahhlanaa
namespace Go.Proofs.Ytafhnfcahhlanaa
open Go.Sx Go.RowKit
def keepR {α:Type} (S2:Nat→Prop) (R2:World→Prop) (f:List Int→List α) (J:List α→(Nat→Prop)→World→Prop) (s:List (List Int)) (Z:Nat→Prop) (W:World):Prop:=
  ∃Z',(∀k,Z k↔(Z' k∨S2 k))∧R2 W∧J (s.flatMap f) Z' W
theorem keepR_steady {α:Type} {S2:Nat→Prop} {R2:World→Prop} {f:List Int→List α} {J:List α→(Nat→Prop)→World→Prop} (h2:Steady S2 R2) (hJ:∀s Z,Steady Z (J s Z)) (s:List (List Int)) (Z:Nat→Prop):Steady Z (keepR S2 R2 f J s Z):=by
  rintro w1 w2 a1 a2 ⟨Z',e1,e2,e3⟩
  exact⟨Z',e1,h2 w1 w2 (fun k hk=>a1 k ((e1 k).2 (.inr hk))) a2 e2,hJ _ _ w1 w2 (fun k hk=>a1 k ((e1 k).2 (.inl hk))) a2 e3⟩
theorem rays_iter (L:List Cond) (lv:Value) (vs:Nat→Value) (m b1 b2:Nat) (w:World) (S0:Nat→Prop) (hc:ConsAt w lv L vs) (hS0:Steady S0 (fun w=>ConsAt w lv L vs)) (hlt0:∀k,S0 k→k<w.heap.size) (hsb0:∀k,sb lv k→S0 k)
    (h1:w.heap[b1]?=some (.cells #[lv] 59 (0,0))) (h2:w.heap[b2]?=some (.cells #[I ((m+1:Nat):Int)] 3 (0,0))) (hL:L.length≤8) (hn:m+1≤8) (hrow:∀c∈L,c.1.length=m+1):
    Iter Try.prog (.func (.func 81) #[] #[Pt b1,Pt b2]) (fun k=>(k=b1∨k=b2)∨S0 k) RelL (raysM L (m+1)) w:=by
  refine⟨81,#[Pt b1,Pt b2],rfl,fun args w=>Try.call81 args w,?_⟩
  intro l0 T J Z W hrd hsz hT hZ hR hJ
  rw[show (#[.func (.yield l0) #[] #[]]++#[Pt b1,Pt b2]:Array Value)=#[.func (.yield l0) #[] #[],Pt b1,Pt b2] from by simp]
  obtain⟨AL,cL,hlv⟩:∃AL cL,lv=.slice AL L.length cL:=by obtain⟨A,c,e,_⟩:=hc;exact⟨A,c,e⟩
  subst hlv
  obtain⟨S1,hS1⟩:∃S1:Nat→Prop,S1=fun x=>(x=b1∨x=b2)∨S0 x:=⟨_,rfl⟩
  obtain⟨R1,hR1⟩:∃R1:World→Prop,R1=fun w=>(w.heap[b1]?=some (.cells #[.slice AL L.length cL] 59 (0,0))∧w.heap[b2]?=some (.cells #[I ((m+1:Nat):Int)] 3 (0,0)))∧ConsAt w (.slice AL L.length cL) L vs:=⟨_,rfl⟩
  have hst1:Steady S1 R1:=by rw[hS1,hR1];exact ((Steady.heap (.inl (.inl rfl))).and (Steady.heap (.inl (.inr rfl)))).and (hS0.mono fun k hk=>.inr hk)
  have hRW:R1 W:=hst1 w W (fun k hk=>hrd k (by rw[hS1]at hk;exact hk)) hsz (by rw[hR1];exact⟨⟨h1,h2⟩,hc⟩)
  have hlt1:∀k,S1 k→k<W.heap.size:=by
    rw[hS1]
    rintro k ((rfl|rfl)|hk)
    · have:=lt_of_heap h1;omega
    · have:=lt_of_heap h2;omega
    · have:=hlt0 k hk;omega
  have hTW:∀k∈T,k<W.heap.size:=fun k hk=>(hT k hk).1
  have hTS:∀k∈T,¬S1 k:=by rw[hS1];exact fun k hk=>(hT k hk).2
  refine enterRaw T [.c (.k (.func (.yield l0) #[] #[])),.c (.k (Pt b1)),.c (.k (Pt b2))] [(1,.say S1 R1),(2,.say Z (J [] Z))] Try.func81 rfl 102 Try.ntmps81 rfl rfl ⟨trivial,trivial,trivial,trivial⟩
    ⟨⟨hRW,hlt1,hst1⟩,⟨fun h=>h.elim,fun h=>h.elim,trivial⟩,⟨hJ,hZ,hR.1 _ _⟩,trivial,trivial⟩ fun ρ0 a0 hs0=>?_
  have hb1:∀w,R1 w→w.heap[b1]?=some (.cells #[.slice AL L.length cL] 59 (0,0)):=fun w h=>by rw[hR1]at h;exact h.1.1
  have hb2:∀w,R1 w→w.heap[b2]?=some (.cells #[I ((m+1:Nat):Int)] 3 (0,0)):=fun w h=>by rw[hR1]at h;exact h.1.2
  refine rawSeq rfl hs0 (G.reg tfine rfl trivial ⟨rfl,fun ρ1 a1 w1 hs1=>?_⟩)
  refine rawSeq rfl hs1 (G.regC tfine rfl trivial ?_)
  refine GO.steps (Steps.loadK tfine 1 [.slice AL L.length cL] rfl rfl rfl rfl rfl hb1 rfl rfl) ?_
  refine GO.more tfine rfl trivial ?_
  refine GO.steps (Steps.loadK tfine 1 [I ((m+1:Nat):Int)] rfl rfl rfl rfl rfl hb2 rfl rfl) ?_
  refine GO.more tfine rfl trivial ?_
  rw[show IntKind.i64.wrap (((m+1:Nat):Int)-1)=(m:Int) from by rw[IntWalk.i64_in _ (by omega)];omega]
  refine GO.callSay 715 (boxV 94) boxS (boxR (I L.length) (I m) 3 3 W.heap.size) rfl rfl rfl rfl rfl (fun args w=>Try.call75 args w) (fun ρ w hs hok=>choices_any W.heap.size L.length m w hs.fr.size) fun g=>?_
  refine GO.nil ⟨rfl,fun ρ2 a2 w2 hs2=>?_⟩
  have k1:=hs2.tmK (j:=1) (v:=Pt b1) rfl
  have k2:=hs2.tmK (j:=2) (v:=Pt b2) rfl
  have k19:=hs2.tmK (j:=19) (v:=boxV 94 g) rfl
  obtain⟨k3,p3,q3,r3⟩:=hs2.tmP (j:=3) (x:=3) (off:=0) rfl rfl
  obtain⟨f1,_⟩:=hs2.mem.sayAt (X:=1) rfl
  obtain⟨f2,f2'⟩:=hs2.mem.sayAt (X:=2) rfl
  obtain⟨⟨⟨g1,g2⟩,g3,g4⟩,g5⟩:=hs2.mem.sayAt (X:=715) rfl
  have hfrW:=hs2.mem.fr
  simp only[borT_snd]at hfrW
  have hdf:=hs2.df
  have hsz2:=hs2.sz
  obtain⟨p,hp⟩:∃p,p=(ρ2 3).1:=⟨_,rfl⟩
  rw[←hp]at k3 p3 q3 r3
  have p3:w2.heap[p]?=some (.cells #[.func (.yield l0) #[] #[]] 67 (0,0)):=p3
  have hpW:W.heap.size≤p:=by
    rcases q3 with h|h
    · exact h
    · have:=borT_mem h;omega
  obtain⟨S2,hS2⟩:∃S2:Nat→Prop,S2=fun k=>S1 k∨k=p:=⟨_,rfl⟩
  obtain⟨R2,hR2⟩:∃R2:World→Prop,R2=fun w=>R1 w∧w.heap[p]?=some (.cells #[.func (.yield l0) #[] #[]] 67 (0,0)):=⟨_,rfl⟩
  have hst2:Steady S2 R2:=by rw[hS2,hR2];exact (hst1.mono fun k hk=>.inl hk).and (Steady.heap (.inr rfl))
  have hR12:∀w,R2 w→R1 w:=fun w h=>by rw[hR2]at h;exact h.1
  have hTS2:∀k∈T,¬S2 k:=by
    rw[hS2]
    rintro k hk (h|rfl)
    · exact hTS k hk h
    · have:=hTW _ hk;omega
  have hWw:W.heap.size≤w2.heap.size:=hfrW.size
  have hS2w:∀k,S2 k→k<w2.heap.size:=by
    rw[hS2]
    rintro k (h|rfl)
    · have:=hlt1 k h;omega
    · exact r3
  refine wpIn_block ?_
  refine wp_range (gv:=boxV 94 g) k19 (choices_iter L.length m g.1 g.2 w2 hL g1 g2) (fun k hk=>(g5 k hk).1) T ?_ (keepR S2 R2 (raysOf L (m+1)) J) (keepR_steady hst2 hR.1) (fun k=>Z k∨S2 k) ?_ ⟨Z,fun _=>Iff.rfl,by rw[hR2];exact⟨f1,p3⟩,f2⟩ ?_ ?_
  · rintro k hk
    have:=hTW k hk
    exact⟨by omega,fun h=>by rcases h with rfl|rfl<;>omega⟩
  · rintro k (hk|hk)
    · have:=hZ k hk;omega
    · exact hS2w k hk
  · rintro l s x v Zk W1 hx hl hsame hlt ⟨Z',e1,e2,e3⟩ hZ1 ⟨A5,c5,rfl,hrd5,hc5⟩ hv
    obtain⟨hlen,hin⟩:=choose_in hx
    have hsA:Sat ⟨W1,borT 1000 [],102,some l,[]⟩ (ρT 1000 []) (St.of [(1,.v (.c (.k (Pt b1)))),(2,.v (.c (.k (Pt b2)))),(3,.v (.c (.k (Pt p)))),(20,.v (.c (.k (.slice A5 x.length c5))))] []) { tmps:=a2.tmps.setIfInBounds 20 (.slice A5 x.length c5),defers:=[] } W1:=
      Sat.say0 (Nat.le_refl _) rfl (by rw[Array.size_setIfInBounds];exact hsz2) ⟨by rw[getD_setNe (show (1:Nat)≠20 by decide),k1];rfl,by rw[getD_setNe (show (2:Nat)≠20 by decide),k2];rfl,by rw[getD_setNe (show (3:Nat)≠20 by decide),k3];rfl,by rw[getD_setEq (by rw[hsz2];show 20<102;decide)];rfl,trivial⟩ trivial
    refine⟨fun a₁ w₁=>∃ρ,Sat ⟨W1,borT 1000 [],102,some l,[]⟩ ρ (St.of [(1,.v (.c (.k (Pt b1)))),(2,.v (.c (.k (Pt b2)))),(3,.v (.c (.k (Pt p)))),(4,.v (.c (.k (.slice A5 x.length c5))))] []) a₁ w₁,assign_wp rfl hsA rfl (G.reg tfine rfl trivial ⟨rfl,St.le_of rfl trivial ⟨rfl,rfl,rfl,rfl,trivial⟩⟩),?_⟩
    rintro a₁ w₁ ⟨ρ',hs1'⟩
    have hfr1:Fr W1 [] w₁:=hs1'.mem.fr
    refine⟨hfr1,fun W3 hsm hsz3 hoth=>?_⟩
    have t1:=hs1'.tmK (j:=1) (v:=Pt b1) rfl
    have t2:=hs1'.tmK (j:=2) (v:=Pt b2) rfl
    have t3:=hs1'.tmK (j:=3) (v:=Pt p) rfl
    have t4:=hs1'.tmK (j:=4) (v:=.slice A5 x.length c5) rfl
    have hmv:∀{S:Nat→Prop} {R:World→Prop},Steady S R→(∀k,S k→k<W1.heap.size∧k≠l)→R W1→R W3:=fun hst hS hR=>hst W1 W3 (fun k hk=>(hoth k (hS k hk).2).trans (hfr1.block k (hS k hk).1 (by simp))) (by rw[hsz3];exact hfr1.size) hR
    have hZ':∀k,Z' k→k<W1.heap.size∧k≠l:=fun k hk=>hZ1 k ((e1 k).2 (.inl hk))
    have hS2':∀k,S2 k→k<W1.heap.size∧k≠l:=fun k hk=>hZ1 k ((e1 k).2 (.inr hk))
    have h13:W1.heap.size≤W3.heap.size:=by rw[hsz3];exact hfr1.size
    have hv':∀k,sb (.slice A5 x.length c5) k→k<W1.heap.size∧k≠l:=fun k hk=>⟨(hv k hk).1,(hv k hk).2.2⟩
    have hsB:Sat ⟨W3,borT 1000 T,102,some l,[]⟩ (ρT 1000 T) (St.of [(1,.v (.c (.k (Pt b1)))),(2,.v (.c (.k (Pt b2)))),(3,.v (.c (.k (Pt p)))),(4,.v (.c (.k (.slice A5 x.length c5))))] [(1,.say S2 R2),(2,.say Z' (J (s.flatMap (raysOf L (m+1))) Z')),(5,.say (sb (.slice A5 x.length c5)) (fun w=>IntsAt w (.slice A5 x.length c5) x))]) a₁ W3:=
      Sat.say0 (Nat.le_refl _) hs1'.df hs1'.sz ⟨by rw[t1];rfl,by rw[t2];rfl,by rw[t3];rfl,by rw[t4];rfl,trivial⟩
        ⟨⟨hmv hst2 hS2' e2,fun k hk=>Nat.lt_of_lt_of_le (hS2' k hk).1 h13,hst2⟩,⟨fun h=>h.elim,fun h=>h.elim,fun h=>h.elim,fun h=>h.elim,trivial⟩,⟨hmv (hR.1 _ _) hZ' e3,fun k hk=>Nat.lt_of_lt_of_le (hZ' k hk).1 h13,hR.1 _ _⟩,⟨fun h=>h.elim,fun h=>h.elim,trivial⟩,⟨hmv steady_ints hv' ⟨A5,c5,rfl,hrd5,hc5⟩,fun k hk=>Nat.lt_of_lt_of_le (hv' k hk).1 h13,steady_ints⟩,trivial,trivial⟩
    have hWW3:Same W W3:=((hfrW.same.trans hsame).trans hfr1.same).trans hsm
    refine body_wp rfl hsB rfl (ray_round L AL A5 cL c5 vs m b1 b2 p l0 l W.heap.size W3 T J (s.flatMap (raysOf L (m+1))) Z' S2 R2 x (fun w h=>hb1 w (hR12 w h)) (fun w h=>hb2 w (hR12 w h)) (fun w h=>by rw[hR2]at h;exact h.2) (fun w h=>by have:=hR12 w h;rw[hR1]at this;exact this.2) (fun i hi=>by obtain⟨_,_,_,_,_,h⟩:=hc;obtain⟨A',c',e,_⟩:=h i hi;exact⟨A',c',e⟩)
      (fun k hk=>by rw[hS2,hS1];exact .inl (.inr (hsb0 k hk))) hTS2 (fun k hk hk'=>(hv k hk').2.1 hk) (fun k hk=>by have:=hTW k hk;have:=hWW3.size;omega) (hR.later hWW3) hWW3.size hL hn hrow hlen hin hx) ?_
    rintro e ρ st a w' hs ⟨rfl,Zn,m2,hZn,m1⟩
    obtain⟨j1,j2,_⟩:=hs.mem.ok 2 _ m2
    obtain⟨i1,i2,_⟩:=hs.mem.ok 1 _ m1
    have hfr3:=hs.mem.fr
    simp only[borT_snd]at hfr3
    refine⟨rfl,hfr3,fun k=>Zn k∨S2 k,⟨Zn,fun _=>Iff.rfl,i1,?_⟩,?_⟩
    · have e:(s++[x]).flatMap (raysOf L (m+1))=s.flatMap (raysOf L (m+1))++raysOf L (m+1) x:=by simp
      rw[e]
      exact j1
    · rintro k (hk|hk)
      · refine⟨?_,j2 k hk⟩
        rcases hZn k hk with h|h
        · exact .inl ((e1 k).2 (.inl h))
        · exact .inr (.inr (by omega))
      · exact⟨.inl ((e1 k).2 (.inr hk)),i2 k hk⟩
  · rintro Zf W3 hfr ⟨Z',e1,e2,e3⟩ hZf hK
    refine marks_end (.inr rfl) (by rw[hdf]) hK (results_none (fn:=Try.f81) rfl _ _ _) ⟨⟨_,rfl⟩,?_,Z',?_,?_⟩
    · exact (hfrW.trans' hfr fun k _ h=>h).putObj (.inl hWw) _
    · exact hR.1 _ _ W3 _ (fun k hk=>World.putObj_heap_other (hZf k ((e1 k).2 (.inl hk))).2) (by simp) e3
    · intro k hk
      rw[World.putObj_size]
      exact (hZf k ((e1 k).2 (.inl hk))).1
end Go.Proofs.Ytafhnfcahhlanaa
namespace Go.Proofs.Ytafhnfcahhlanaa
open Go.Sx Go.RowKit
def sgnI (p q:Int):Int:=if p<q then -1 else if q<p then 1 else 0
theorem isNaNi_any (n:Int) (w:World):Calls Try.prog 104 #[I n] w fun e w'=>e=.returned (.bool false)∧Below w.heap.size w w':=by
  refine enterPlain tfine Try.func104 rfl 6 Try.ntmps104 [.c (.k (I n))] [] rfl rfl trivial ⟨trivial,trivial⟩ ?_
  refine G.seqR tfine rfl trivial ?_
  refine G.seqR tfine rfl trivial ?_
  exact G.ret (endK.ret rfl (by simp))
theorem cmpi_any (p q:Int) (w:World):Calls Try.prog 98 #[I p,I q] w fun e w'=>e=.returned (I (sgnI p q))∧Below w.heap.size w w':=by
  refine enterPlain tfine Try.func98 rfl 20 Try.ntmps98 [.c (.k (I p)),.c (.k (I q))] [] rfl rfl trivial ⟨trivial,trivial,trivial⟩ ?_
  refine G.seqR tfine rfl trivial ?_
  refine G.seqC tfine rfl trivial ?_
  refine GO.callPlain rfl rfl rfl rfl (fun args w=>Try.call104 args w) (fun ρ w _ _=>isNaNi_any p w) ?_
  refine GO.fin tfine rfl trivial ?_
  refine G.seqC tfine rfl trivial ?_
  refine GO.callPlain rfl rfl rfl rfl (fun args w=>Try.call104 args w) (fun ρ w _ _=>isNaNi_any q w) ?_
  refine GO.fin tfine rfl trivial ?_
  refine G.seq (G.seqR tfine rfl trivial ?_)
  refine G.cond_false rfl ?_
  refine G.skip ?_
  refine G.seq (G.seqR tfine rfl trivial ?_)
  refine G.cond_false rfl ?_
  refine G.skip ?_
  refine G.seq (G.seqR tfine rfl trivial ?_)
  refine G.cond (b:=decide (p<q)) rfl (fun h=>?_) (fun h=>?_)
  · have h:=of_decide_eq_true h
    refine G.seqR tfine rfl trivial ?_
    exact G.ret (endK.ret rfl (by rw[sgnI,if_pos (by omega)]))
  have h:=of_decide_eq_false h
  refine G.skip ?_
  refine G.seq (G.seqR tfine rfl trivial ?_)
  refine G.cond (b:=decide (p>q)) rfl (fun h2=>?_) (fun h2=>?_)
  · have h2:=of_decide_eq_true h2
    refine G.seqR tfine rfl trivial ?_
    exact G.ret (endK.ret rfl (by rw[sgnI,if_neg (by omega),if_pos (by omega)]))
  have h2:=of_decide_eq_false h2
  refine G.skip ?_
  refine G.seqR tfine rfl trivial ?_
  exact G.ret (endK.ret rfl (by rw[sgnI,if_neg (by omega),if_neg (by omega)]))
def lexI (a b:List Int):Nat→Nat→Int
  |_,0=>0
  |k,n+1=>if sgnI (a.getD k 0) (b.getD k 0)≠0 then sgnI (a.getD k 0) (b.getD k 0) else lexI a b (k+1) n
theorem compareI_any (A B:Option Addr) (c d n:Nat) (a b:List Int) (w:World) (hA:RdRow w A n 1 (elI a)) (hB:RdRow w B n 1 (elI b)) (hn:n≤100000):
    Calls Try.prog 80 #[.slice A n c,.slice B n d] w fun e w'=>e=.returned (I (lexI a b 0 n))∧Below w.heap.size w w':=by
  refine enterPlain tfine Try.func80 rfl 36 Try.ntmps80 [.c (.inp 1000 A n c),.c (.inp 1001 B n d)] [⟨1000,A,1,n,elI a⟩,⟨1001,B,1,n,elI b⟩] rfl rfl ⟨hA,hB,trivial⟩ ⟨.inl ⟨rfl,rfl,rfl⟩,.inr ⟨nx rfl,.inl ⟨rfl,rfl,rfl⟩⟩,trivial⟩ ?_
  refine G.seqR tfine rfl trivial ?_
  refine G.seq ?_
  refine G.seqR tfine rfl trivial ?_
  refine G.block (G.loop (fun k:Nat=>St.of [(0,.v (.c (.inp 1000 A n c))),(1,.v (.c (.inp 1001 B n d))),(9,.v (.c (.inp 1000 A n c))),(10,.v (.c (.k (I n)))),(11,.v (.c (.k (I k))))] [(1000,.ro 1 n (elI a)),(1001,.ro 1 n (elI b))])
    (fun k=>k≤n∧lexI a b 0 n=lexI a b k (n-k)) (fun k=>n-k) 0 ⟨by omega,by simp⟩ (St.le_of rfl ⟨⟨_,rfl,Blk.le_refl _⟩,⟨_,rfl,Blk.le_refl _⟩,trivial⟩ ⟨rfl,rfl,rfl,rfl,rfl,trivial⟩) ?_)
  rintro k ⟨hk,hr⟩
  refine G.seqR tfine rfl trivial ?_
  refine G.seq ?_
  refine G.cond (b:=decide ((k:Int)<(n:Int))) rfl (fun h2=>?_) (fun h2=>?_)
  rotate_left
  · have h2:=of_decide_eq_false h2
    have:k=n:=by omega
    subst this
    refine G.exit ?_
    refine G.seq (G.seqR tfine rfl trivial ?_)
    refine G.cond (b:=decide ((k:Int)<(k:Int))) rfl (fun h=>by have:=of_decide_eq_true h;omega) (fun _=>?_)
    refine G.skip ?_
    refine G.seqR tfine rfl trivial ?_
    exact G.ret (endK.ret rfl (by rw[hr,Nat.sub_self];rfl))
  have h2:=of_decide_eq_true h2
  have hlt:k<n:=by omega
  refine G.skip ?_
  refine G.seq ?_
  refine G.block ?_
  refine G.seqR tfine rfl ⟨by omega,by omega,by omega,trivial⟩ ?_
  rw[Int.toNat_natCast]
  refine G.seq (G.seqR tfine rfl trivial ?_)
  refine G.cond (b:=decide ((k:Int)≥(n:Int))) rfl (fun h=>by have:=of_decide_eq_true h;omega) (fun h=>?_)
  refine G.skip ?_
  refine G.seqR tfine rfl ⟨by omega,by omega,by omega,trivial⟩ ?_
  rw[Int.toNat_natCast]
  refine G.seqC tfine rfl trivial ?_
  refine GO.callPlain rfl rfl rfl rfl (fun args w=>Try.call98 args w) (fun ρ w _ _=>cmpi_any (a.getD k 0) (b.getD k 0) w) ?_
  refine GO.fin tfine rfl trivial ?_
  have hs:n-k=(n-(k+1))+1:=by omega
  have hl:lexI a b k (n-(k+1)+1)=if sgnI (a.getD k 0) (b.getD k 0)≠0 then sgnI (a.getD k 0) (b.getD k 0) else lexI a b (k+1) (n-(k+1)):=rfl
  rw[hs,hl]at hr
  refine G.seqR tfine rfl trivial ?_
  refine G.cond (b:=sgnI (a.getD k 0) (b.getD k 0) != 0) rfl (fun h=>?_) (fun h=>?_)
  · rw[if_pos (by simpa using h)]at hr
    refine G.seqR tfine rfl trivial ?_
    exact G.ret (endK.ret rfl (by rw[hr]))
  rw[if_neg (by simpa using h)]at hr
  refine G.skip ?_
  refine G.reg tfine rfl trivial ?_
  rw[IntWalk.i64_in ((k:Int)+1) (by omega)]
  exact⟨k+1,⟨by omega,hr⟩,(by show n-(k+1)<n-k;omega),St.le_of rfl ⟨⟨_,rfl,Blk.le_refl _⟩,⟨_,rfl,Blk.le_refl _⟩,trivial⟩ ⟨rfl,rfl,rfl,rfl,by simp[up,I],trivial⟩⟩
def WantAt (wv:Value) (wm:List Int→Bool) (n:Nat) (rd:Nat→Prop) (w:World):Prop:=
  ∃f b,wv=.func (.func f) #[] #[Pt b]∧(∀(args:Array Value) (w:World),(callFunc f args).run Try.prog w=.ok (.enter f args) w)∧∀W,(∀k,rd k→W.heap[k]?=w.heap[k]?)→w.heap.size≤W.heap.size→∀x v,IntsAt W v x→x.length=n→
    Calls Try.prog f #[v,Pt b] W fun e w'=>e=.returned (.bool (wm x))∧Below W.heap.size W w'
theorem WantAt.steady {wv:Value} {wm:List Int→Bool} {n:Nat} {rd:Nat→Prop}:Steady rd (WantAt wv wm n rd):=by
  rintro w1 w2 h1 h2 ⟨f,b,e,hcf,h⟩
  exact⟨f,b,e,hcf,fun W h3 h4=>h W (fun k hk=>(h3 k hk).trans (h1 k hk)) (Nat.le_trans h2 h4)⟩
theorem solve1_any (v ov rv lv:Value) (b:Nat) (y lim:List Int) (w:World) (hv:IntsAt w v y) (hb:w.heap[b]?=some (.cells #[ov,rv,lv] 25 (0,0))) (hl:IntsAt w lv lim) (hyl:y.length≤lim.length) (hn:lim.length≤100000):
    Calls Try.prog 38 #[v,Pt b] w fun e w'=>e=.returned (.bool (decide (dotL y lim<0)))∧Below w.heap.size w w':=by
  obtain⟨A,c,rfl,hA,_⟩:=hv
  obtain⟨B,d,rfl,hB,_⟩:=hl
  refine enterOld [.c (.k (.slice A y.length c)),.c (.k (Pt b))] Try.func38 rfl 9 Try.ntmps38 rfl rfl ⟨trivial,trivial,trivial⟩ ?_
  refine G.openPtr (b:=b) (ty:=25) (cs:=[ov,rv,.slice B lim.length d]) 1 701 1 rfl (fun w' ha=>heap_asOf hb ha) (lt_of_heap hb) rfl rfl rfl ?_
  refine G.seqR tfine rfl trivial ?_
  refine G.seqC tfine rfl ⟨by decide,trivial⟩ ?_
  refine GO.callPlain (v:=I (dotL y lim)) rfl rfl rfl rfl (fun args w=>Try.call39 args w) (fun ρ w1 hs hok=>dot_any A B c d y lim w1 (hA.below hs.fr.toBelow) (hB.below hs.fr.toBelow) hyl (by omega)) ?_
  refine GO.fin tfine rfl trivial ?_
  exact G.ret (retK.plain tfine rfl rfl)
theorem solve2_any (v ov rv lv:Value) (b:Nat) (y obj:List Int) (w:World) (hv:IntsAt w v y) (hb:w.heap[b]?=some (.cells #[ov,rv,lv] 25 (0,0))) (hl:IntsAt w ov obj) (hyl:y.length≤obj.length) (hn:obj.length≤100000):
    Calls Try.prog 40 #[v,Pt b] w fun e w'=>e=.returned (.bool (decide (dotL y obj>0)))∧Below w.heap.size w w':=by
  obtain⟨A,c,rfl,hA,_⟩:=hv
  obtain⟨B,d,rfl,hB,_⟩:=hl
  refine enterOld [.c (.k (.slice A y.length c)),.c (.k (Pt b))] Try.func40 rfl 9 Try.ntmps40 rfl rfl ⟨trivial,trivial,trivial⟩ ?_
  refine G.openPtr (b:=b) (ty:=25) (cs:=[.slice B obj.length d,rv,lv]) 1 701 1 rfl (fun w' ha=>heap_asOf hb ha) (lt_of_heap hb) rfl rfl rfl ?_
  refine G.seqR tfine rfl trivial ?_
  refine G.seqC tfine rfl ⟨by decide,trivial⟩ ?_
  refine GO.callPlain (v:=I (dotL y obj)) rfl rfl rfl rfl (fun args w=>Try.call39 args w) (fun ρ w1 hs hok=>dot_any A B c d y obj w1 (hA.below hs.fr.toBelow) (hB.below hs.fr.toBelow) hyl (by omega)) ?_
  refine GO.fin tfine rfl trivial ?_
  exact G.ret (retK.plain tfine rfl rfl)
def curL (o:Option (List Int)):List Int:=o.getD []
def takeL (wm:List Int→Bool) (n:Nat) (o:Option (List Int)) (x:List Int):Bool:=wm x&&(o.isNone||decide (lexI x (curL o) 0 n<0))
def lstep (wm:List Int→Bool) (n:Nat) (o:Option (List Int)) (x:List Int):Option (List Int):=if takeL wm n o x=true then some x else o
def leastM (wm:List Int→Bool) (n:Nat) (xs:List (List Int)):Option (List Int):=xs.foldl (lstep wm n) none
theorem leastM_snoc (wm:List Int→Bool) (n:Nat) (s:List (List Int)) (x:List Int):leastM wm n (s++[x])=lstep wm n (leastM wm n s) x:=by simp[leastM]
theorem leastM_mem (wm:List Int→Bool) (n:Nat) (xs s:List (List Int)) (hs:∀x∈s,x∈xs):∀x,leastM wm n s=some x→x∈xs:=by
  have key:∀(s:List (List Int)) (o:Option (List Int)),(∀x∈s,x∈xs)→(∀x,o=some x→x∈xs)→∀x,s.foldl (lstep wm n) o=some x→x∈xs:=by
    intro s
    induction s with
    |nil=>intro o _ ho x hx;exact ho x hx
    |cons y s ih=>
      intro o hs ho x hx
      refine ih _ (fun z hz=>hs z (List.mem_cons_of_mem _ hz)) (fun z hz=>?_) x hx
      unfold lstep at hz
      split at hz
      · cases hz;exact hs _ List.mem_cons_self
      · exact ho z hz
  exact key s none hs (fun x h=>by cases h)
noncomputable def body35:Code:=bodyL (Try.f35.body.getD .skip)
theorem least_round (wm:List Int→Bool) (n f b:Nat) (hcf:∀(args:Array Value) (w:World),(callFunc f args).run Try.prog w=.ok (.enter f args) w) (An Ax:Option Addr) (cn cx g3 l g6:Nat) (W2:World) (o:Option (List Int)) (x:List Int) (S2:Nat→Prop) (R2:World→Prop)
    (h3:∀w,R2 w→w.heap[g3]?=some (.cells #[.func (.func f) #[] #[Pt b]] 67 (0,0))) (hw:∀w,R2 w→∀x v,IntsAt w v x→x.length=n→Calls Try.prog f #[v,Pt b] w fun e w'=>e=.returned (.bool (wm x))∧Below w.heap.size w w')
    (hx:x.length=n) (ho:o.isSome=true→(curL o).length=n) (hAn:An.isNone=o.isNone) (hn:n≤100000):
    G Try.prog ⟨W2,borT 1000 [g6],27,some l,[]⟩ (fun e st=>e=.normal∧st.m 1000=some (.var 22 [.k (bif takeL wm n o x then .slice Ax x.length cx else .slice An (curL o).length cn)])
        ∧ st.m 1=some (.say S2 R2)∧st.m 4=some (.say (sb (.slice An (curL o).length cn)) (fun w=>IntsAt w (.slice An (curL o).length cn) (curL o)))∧st.m 5=some (.say (sb (.slice Ax x.length cx)) (fun w=>IntsAt w (.slice Ax x.length cx) x))) body35
      (St.of [(3,.v (.c (.k (Pt g3)))),(6,.v (.c (.ptr 1000 0 0 0))),(7,.v (.c (.k (.slice Ax x.length cx))))]
        [(1000,.var 22 [.k (.slice An (curL o).length cn)]),(1,.say S2 R2),(4,.say (sb (.slice An (curL o).length cn)) (fun w=>IntsAt w (.slice An (curL o).length cn) (curL o))),(5,.say (sb (.slice Ax x.length cx)) (fun w=>IntsAt w (.slice Ax x.length cx) x))]):=by
  have rowOf:∀{w:World} {A:Option Addr} {l:List Int} {c:Nat},IntsAt w (.slice A l.length c) l→RdRow w A l.length 1 (elI l):=fun h=>by obtain⟨A',c',e,h1,_⟩:=h;cases e;exact h1
  obtain⟨on,hon⟩:∃on,on=o.isNone:=⟨_,rfl⟩
  obtain⟨tk,htk⟩:∃tk,tk=takeL wm n o x:=⟨_,rfl⟩
  have htk2:tk=(wm x&&(on||decide (lexI x (curL o) 0 n<0))):=by rw[htk,hon];rfl
  rw[←hon]at hAn
  rw[←htk]
  cases An with
  |none=>
    have hon2:on=true:=hAn.symm
    refine G.block (id:=1) ?_
    refine G.seqC tfine rfl trivial ?_
    refine GO.steps (Steps.loadK tfine 1 [.func (.func f) #[] #[Pt b]] rfl rfl rfl rfl rfl h3 rfl rfl) ?_
    refine GO.more tfine rfl trivial ?_
    refine GO.callPlain (v:=.bool (wm x)) rfl rfl rfl rfl hcf (fun ρ w hs hok=>hw w (hs.ok 1 _ rfl).1 x _ (hs.ok 5 _ rfl).1 hx) ?_
    refine GO.more tfine rfl ?_ ?_
    · first|trivial|(simp[AllP,condB];done)|(simp only[AllP];and_intros<;>first|trivial|decide|omega)|(simp[AllP,condB];intros;and_intros<;>first|assumption|omega)|(simp[AllP,condB];intros;simp_all;done)
    refine GO.callGuard (I (lexI x (curL o) 0 n)) rfl rfl rfl ⟨fun h=>h,fun h=>h,trivial⟩ rfl rfl (fun args w=>Try.call80 args w) rfl (fun hct m' hle ρ w1 hs hok=>?_) ?_
    · revert hct
      cases wm x<;>intro hct<;>cases hct
    refine GO.fin tfine rfl ?_ ?_
    · first|trivial|(simp[AllP,condB];done)|(simp only[AllP];and_intros<;>first|trivial|decide|omega)|(simp[AllP,condB];intros;and_intros<;>first|assumption|omega)|(simp[AllP,condB];intros;simp_all;done)
    refine G.cond (b:=tk) ?_ (fun h=>?_) (fun h=>?_)
    · rw[htk2,hon2]
      generalize decide (lexI x (curL o) 0 n<0)=r
      generalize wm x=p
      cases p<;>cases r<;>rfl
    · rw[h]
      refine G.reg tfine rfl trivial ?_
      exact⟨rfl,rfl,rfl,rfl,rfl⟩
    · rw[h]
      refine G.skip ?_
      exact⟨rfl,rfl,rfl,rfl,rfl⟩
  |some a=>
    have hon2:on=false:=hAn.symm
    refine G.block (id:=1) ?_
    refine G.seqC tfine rfl trivial ?_
    refine GO.steps (Steps.loadK tfine 1 [.func (.func f) #[] #[Pt b]] rfl rfl rfl rfl rfl h3 rfl rfl) ?_
    refine GO.more tfine rfl trivial ?_
    refine GO.callPlain (v:=.bool (wm x)) rfl rfl rfl rfl hcf (fun ρ w hs hok=>hw w (hs.ok 1 _ rfl).1 x _ (hs.ok 5 _ rfl).1 hx) ?_
    refine GO.more tfine rfl ?_ ?_
    · first|trivial|(simp[AllP,condB];done)|(simp only[AllP];and_intros<;>first|trivial|decide|omega)|(simp[AllP,condB];intros;and_intros<;>first|assumption|omega)|(simp[AllP,condB];intros;simp_all;done)
    refine GO.callGuard (I (lexI x (curL o) 0 n)) rfl rfl rfl ⟨fun h=>h,fun h=>h,trivial⟩ rfl rfl (fun args w=>Try.call80 args w) rfl (fun hct m' hle ρ w1 hs hok=>?_) ?_
    · have hl:(curL o).length=n:=ho (by cases o with
        |none=>rw[hon2]at hon;cases hon
        |some y=>rfl)
      have r1:=rowOf (hs.ok 5 _ (hle.at rfl)).1
      have r2:=rowOf (hs.ok 4 _ (hle.at rfl)).1
      have h1:=compareI_any Ax (some a) cx cn n x (curL o) w1 (by rw[hx]at r1;exact r1) (by rw[hl]at r2;exact r2) hn
      have e:(#[.slice Ax n cx,.slice (some a) n cn]:Array Value)=#[.slice Ax x.length cx,.slice (some a) (curL o).length cn]:=by rw[hx,hl]
      rw[e]at h1
      exact h1
    refine GO.fin tfine rfl ?_ ?_
    · first|trivial|(simp[AllP,condB];done)|(simp only[AllP];and_intros<;>first|trivial|decide|omega)|(simp[AllP,condB];intros;and_intros<;>first|assumption|omega)|(simp[AllP,condB];intros;simp_all;done)
    refine G.cond (b:=tk) ?_ (fun h=>?_) (fun h=>?_)
    · rw[htk2,hon2]
      generalize decide (lexI x (curL o) 0 n<0)=r
      generalize wm x=p
      cases p<;>cases r<;>rfl
    · rw[h]
      refine G.reg tfine rfl trivial ?_
      exact⟨rfl,rfl,rfl,rfl,rfl⟩
    · rw[h]
      refine G.skip ?_
      exact⟨rfl,rfl,rfl,rfl,rfl⟩
end Go.Proofs.Ytafhnfcahhlanaa
namespace Go.Proofs.Ytafhnfcahhlanaa
open Go.Sx Go.RowKit
def keepL (wm:List Int→Bool) (n:Nat) (S2:Nat→Prop) (R2:World→Prop) (g6 lo:Nat) (xs s:List (List Int)) (Z:Nat→Prop) (W:World):Prop:=
  ∃nv,(∀k,Z k↔((sb nv k∨S2 k)∨k=g6))∧(∀k,sb nv k→lo≤k∧k≠g6)∧R2 W∧W.heap[g6]?=some (.cells #[nv] 22 (0,0))∧IntsAt W nv (curL (leastM wm n s))∧(leastM wm n s=none→nv=.slice none 0 0)∧∀y∈s,y∈xs
theorem keepL_steady {wm:List Int→Bool} {n:Nat} {S2:Nat→Prop} {R2:World→Prop} {g6 lo:Nat} {xs:List (List Int)} (h2:Steady S2 R2) (s:List (List Int)) (Z:Nat→Prop):Steady Z (keepL wm n S2 R2 g6 lo xs s Z):=by
  rintro w1 w2 a1 a2 ⟨nv,e1,e2,e3,e4,e7,e8,e9⟩
  exact⟨nv,e1,e2,h2 w1 w2 (fun k hk=>a1 k ((e1 k).2 (.inl (.inr hk)))) a2 e3,(a1 g6 ((e1 g6).2 (.inr rfl))).trans e4,steady_ints w1 w2 (fun k hk=>a1 k ((e1 k).2 (.inl (.inl hk)))) a2 e7,e8,e9⟩
theorem least_any (wm:List Int→Bool) (n:Nat) (gv wv:Value) (hgv:∃f a b,gv=.func f a b) (rd rdw:Nat→Prop) (xs:List (List Int)) (w:World) (hI:Iter Try.prog gv rd RelL xs w) (hrd:∀k,rd k→k<w.heap.size) (hW:WantAt wv wm n rdw w) (hrdw:∀k,rdw k→k<w.heap.size) (hn:n≤100000) (hn0:0<n)
    (hx:∀x∈xs,x.length=n):
    Calls Try.prog 35 #[gv,wv] w fun e w'=>∃nv,e=.returned (.tuple #[nv,.bool (leastM wm n xs).isSome])∧Below w.heap.size w w'∧IntsAt w' nv (curL (leastM wm n xs))∧∀k,sb nv k→w.heap.size≤k∧k<w'.heap.size:=by
  obtain⟨gf,ga,gb,rfl⟩:=hgv
  obtain⟨wf,wb,rfl,hcf,hwc⟩:=hW
  have hW:WantAt (.func (.func wf) #[] #[Pt wb]) wm n rdw w:=⟨wf,wb,rfl,hcf,hwc⟩
  obtain⟨S1,hS1⟩:∃S1:Nat→Prop,S1=fun k=>rd k∨rdw k:=⟨_,rfl⟩
  have hlt1:∀k,S1 k→k<w.heap.size:=by
    rw[hS1]
    rintro k (hk|hk)
    · exact hrd k hk
    · exact hrdw k hk
  obtain⟨R1,hR1⟩:∃R1:World→Prop,R1=fun w1=>Iter Try.prog (.func gf ga gb) rd RelL xs w1∧WantAt (.func (.func wf) #[] #[Pt wb]) wm n rdw w1:=⟨_,rfl⟩
  have hst1:Steady S1 R1:=by rw[hS1,hR1];exact (Iter.steady.mono fun k hk=>.inl hk).and (WantAt.steady.mono fun k hk=>.inr hk)
  refine enterRaw [] [.c (.k (.func gf ga gb)),.c (.k (.func (.func wf) #[] #[Pt wb]))] [(1,.say S1 R1)] Try.func35 rfl 27 Try.ntmps35 rfl rfl ⟨trivial,trivial,trivial⟩
    ⟨⟨by rw[hR1];exact⟨hI,hW⟩,hlt1,hst1⟩,trivial,trivial⟩ fun ρ0 a0 hs0=>?_
  refine rawSeq rfl hs0 (G.reg tfine rfl trivial ⟨rfl,fun ρ1 a1 w1 hs1=>?_⟩)
  refine rawSeq rfl hs1 (G.reg tfine rfl trivial ⟨rfl,fun ρ2 a2 w2 hs2=>?_⟩)
  refine wpIn_seq ?_
  refine rawSeq rfl hs2 (G.reg tfine rfl trivial ⟨rfl,fun ρ3 a3 w3 hs3=>?_⟩)
  have k11:=hs3.tmK (j:=8) (v:=.func gf ga gb) rfl
  obtain⟨k3,p3,q3,r3⟩:=hs3.tmP (j:=3) (x:=3) (off:=0) rfl rfl
  obtain⟨k6,p6,q6,r6⟩:=hs3.tmP (j:=6) (x:=6) (off:=0) rfl rfl
  obtain⟨f1,f1'⟩:=hs3.mem.sayAt (X:=1) rfl
  have ne63:=hs3.mem.ne 6 3 _ _ rfl rfl trivial trivial (by decide)
  have hfrW:=hs3.mem.fr
  have hdf:=hs3.df
  have hsz3:=hs3.sz
  obtain⟨g3,hg3⟩:∃g3,g3=(ρ3 3).1:=⟨_,rfl⟩
  obtain⟨g6,hg6⟩:∃g6,g6=(ρ3 6).1:=⟨_,rfl⟩
  have ne63:g6≠g3:=by rw[hg6,hg3];exact ne63
  rw[←hg3]at k3 p3 q3 r3
  rw[←hg6]at k6 p6 q6 r6
  have p3:w3.heap[g3]?=some (.cells #[.func (.func wf) #[] #[Pt wb]] 67 (0,0)):=p3
  have p6:w3.heap[g6]?=some (.cells #[.slice none 0 0] 22 (0,0)):=p6
  have q3:w.heap.size≤g3:=q3.elim id (fun h=>by cases h)
  have q6:w.heap.size≤g6:=q6.elim id (fun h=>by cases h)
  have hfrW:Fr w [] w3:=hfrW
  have hww:w.heap.size≤w3.heap.size:=hfrW.size
  clear hg3 hg6
  obtain⟨S2,hS2⟩:∃S2:Nat→Prop,S2=fun k=>S1 k∨k=g3:=⟨_,rfl⟩
  obtain⟨R2,hR2⟩:∃R2:World→Prop,R2=fun w=>R1 w∧w.heap[g3]?=some (.cells #[.func (.func wf) #[] #[Pt wb]] 67 (0,0)):=⟨_,rfl⟩
  have hst2:Steady S2 R2:=by rw[hS2,hR2];exact (hst1.mono fun k hk=>.inl hk).and (Steady.heap (.inr rfl))
  have hS2w:∀k,S2 k→k<w3.heap.size∧k≠g6:=by
    rw[hS2]
    rintro k (h|rfl)
    · have:=hlt1 k h
      exact⟨by omega,by omega⟩
    · exact⟨r3,ne63.symm⟩
  have hR23:∀w,R2 w→w.heap[g3]?=some (.cells #[.func (.func wf) #[] #[Pt wb]] 67 (0,0)):=fun w h=>by rw[hR2]at h;exact h.2
  have hR2w:∀w,R2 w→∀x v,IntsAt w v x→x.length=n→Calls Try.prog wf #[v,Pt wb] w fun e w'=>e=.returned (.bool (wm x))∧Below w.heap.size w w':=fun w h x v hv hl=>by
    rw[hR2,hR1]at h
    obtain⟨f',b',e',_,h'⟩:=h.1.2
    injection e' with e1 e2 e3
    injection e1 with e1
    simp[Pt]at e3
    subst e1;subst e3
    exact h' w (fun _ _=>rfl) (Nat.le_refl _) x v hv hl
  have f1I:Iter Try.prog (.func gf ga gb) rd RelL xs w3:=by rw[hR1]at f1;exact f1.1
  refine wpIn_block ?_
  refine wp_range (gv:=.func gf ga gb) k11 f1I (fun k hk=>by have:=hrd k hk;omega) [g6] ?_ (keepL wm n S2 R2 g6 w.heap.size xs) (keepL_steady hst2) (fun k=>(sb (.slice none 0 0) k∨S2 k)∨k=g6) ?_
    ⟨.slice none 0 0,fun _=>Iff.rfl,fun k hk=>absurd hk.1 (Nat.lt_irrefl 0),by rw[hR2];exact⟨f1,p3⟩,p6,IntsAt.nil w3,fun _=>rfl,fun y hy=>by cases hy⟩ ?_ ?_
  · intro k hk
    have:k=g6:=by simpa using hk
    subst this
    exact⟨r6,fun h=>by have:=hrd _ h;omega⟩
  · rintro k ((hk|hk)|rfl)
    · exact absurd hk.1 (Nat.lt_irrefl 0)
    · exact (hS2w k hk).1
    · exact r6
  · rintro l s x v Zk W1 hxm hl hsame hlt ⟨nv,e1,e2,e3,e4,e7,e8,hsx⟩ hZ1 ⟨hxv,hxlo⟩ hv
    obtain⟨An,cn,rfl,hAn,hcn⟩:=e7
    obtain⟨Ax,cx,rfl,hAx,hcx⟩:=hxv
    have hx1:=hx x hxm
    have hcur:(leastM wm n s).isSome=true→(curL (leastM wm n s)).length=n:=fun h=>hx _ (by
      obtain⟨y,hy⟩:=Option.isSome_iff_exists.1 h
      rw[show curL (leastM wm n s)=y from by rw[curL,hy];rfl]
      exact leastM_mem wm n xs s hsx y hy)
    have hAnn:An.isNone=(leastM wm n s).isNone:=by
      cases hlm:leastM wm n s with
      |none=>
        have:=e8 hlm
        injection this with h1 h2 h3
        rw[h1];rfl
      |some y=>
        have h0:0<(curL (leastM wm n s)).length:=by rw[hcur (by rw[hlm];rfl)];exact hn0
        obtain⟨b',o',e',_⟩:=hAn h0
        rw[e'];rfl
    have hsA:Sat ⟨W1,borT 1000 [],27,some l,[]⟩ (ρT 1000 []) (St.of [(3,.v (.c (.k (Pt g3)))),(6,.v (.c (.k (Pt g6)))),(9,.v (.c (.k (.slice Ax x.length cx))))] []) { tmps:=a3.tmps.setIfInBounds 9 (.slice Ax x.length cx),defers:=[] } W1:=
      Sat.say0 (Nat.le_refl _) rfl (by rw[Array.size_setIfInBounds];exact hsz3) ⟨by rw[getD_setNe (show (3:Nat)≠9 by decide),k3];rfl,by rw[getD_setNe (show (6:Nat)≠9 by decide),k6];rfl,by rw[getD_setEq (by rw[hsz3];show 9<27;decide)];rfl,trivial⟩ trivial
    refine⟨fun a₁ w₁=>∃ρ,Sat ⟨W1,borT 1000 [],27,some l,[]⟩ ρ (St.of [(3,.v (.c (.k (Pt g3)))),(6,.v (.c (.k (Pt g6)))),(7,.v (.c (.k (.slice Ax x.length cx))))] []) a₁ w₁,assign_wp rfl hsA rfl (G.reg tfine rfl trivial ⟨rfl,St.le_of rfl trivial ⟨rfl,rfl,rfl,trivial⟩⟩),?_⟩
    rintro a₁ w₁ ⟨ρ',hs1'⟩
    have hfr1:Fr W1 [] w₁:=hs1'.mem.fr
    refine⟨hfr1,fun W3 hsm hsz3' hoth=>?_⟩
    have t3:=hs1'.tmK (j:=3) (v:=Pt g3) rfl
    have t6:=hs1'.tmK (j:=6) (v:=Pt g6) rfl
    have t7:=hs1'.tmK (j:=7) (v:=.slice Ax x.length cx) rfl
    have h13:W1.heap.size≤W3.heap.size:=by rw[hsz3'];exact hfr1.size
    have hmv:∀{S:Nat→Prop} {R:World→Prop},Steady S R→(∀k,S k→k<W1.heap.size∧k≠l)→R W1→R W3:=fun hst hS hR=>hst W1 W3 (fun k hk=>(hoth k (hS k hk).2).trans (hfr1.block k (hS k hk).1 (by simp))) h13 hR
    have hS2':∀k,S2 k→k<W1.heap.size∧k≠l:=fun k hk=>hZ1 k ((e1 k).2 (.inl (.inr hk)))
    have hnv':∀k,sb (.slice An (curL (leastM wm n s)).length cn) k→k<W1.heap.size∧k≠l:=fun k hk=>hZ1 k ((e1 k).2 (.inl (.inl hk)))
    have hg6':=hZ1 g6 ((e1 g6).2 (.inr rfl))
    have hv':∀k,sb (.slice Ax x.length cx) k→(k<W1.heap.size∧k≠l)∧k≠g6:=fun k hk=>by
      have h:=hv k hk
      have h2:=h.2.1
      simp only[List.mem_cons,List.not_mem_nil,or_false]at h2
      exact⟨⟨h.1,h.2.2⟩,h2⟩
    have hh:∀{k:Nat} {o:Obj},k<W1.heap.size∧k≠l→W1.heap[k]?=some o→W3.heap[k]?=some o:=fun hk ho=>(hoth _ hk.2).trans ((hfr1.block _ hk.1 (by simp)).trans ho)
    have hsB:Sat ⟨W3,borT 1000 [g6],27,some l,[]⟩ (ρT 1000 [g6]) (St.of [(3,.v (.c (.k (Pt g3)))),(6,.v (.c (.k (Pt g6)))),(7,.v (.c (.k (.slice Ax x.length cx))))]
        [(1000,.var 22 [.k (.slice An (curL (leastM wm n s)).length cn)]),(1,.say S2 R2),(4,.say (sb (.slice An (curL (leastM wm n s)).length cn)) (fun w=>IntsAt w (.slice An (curL (leastM wm n s)).length cn) (curL (leastM wm n s)))),(5,.say (sb (.slice Ax x.length cx)) (fun w=>IntsAt w (.slice Ax x.length cx) x))]) a₁ W3:=by
      refine Sat.say0 (Nat.le_refl _) hs1'.df hs1'.sz ⟨by rw[t3];rfl,by rw[t6];rfl,by rw[t7];rfl,trivial⟩ ?_
      exact⟨⟨.head _,[_],⟨rfl,trivial⟩,hh hg6' e4⟩,⟨fun _ h=>(hS2w _ h).2 rfl,fun h=>h.elim,fun _ h=>(e2 _ h).2 rfl,fun h=>h.elim,fun _ h=>(hv' _ h).2 rfl,fun h=>h.elim,trivial⟩,
        ⟨hmv hst2 hS2' e3,fun k hk=>Nat.lt_of_lt_of_le (hS2' k hk).1 h13,hst2⟩,⟨fun h=>h.elim,fun h=>h.elim,fun h=>h.elim,fun h=>h.elim,trivial⟩,
        ⟨hmv steady_ints hnv' ⟨An,cn,rfl,hAn,hcn⟩,fun k hk=>Nat.lt_of_lt_of_le (hnv' k hk).1 h13,steady_ints⟩,⟨fun h=>h.elim,fun h=>h.elim,trivial⟩,
        ⟨hmv steady_ints (fun k hk=>(hv' k hk).1) ⟨Ax,cx,rfl,hAx,hcx⟩,fun k hk=>Nat.lt_of_lt_of_le (hv' k hk).1.1 h13,steady_ints⟩,trivial,trivial⟩
    have hsC:=hsB.toPtr (d:=6) (g:=g6) 1000 rfl (.head _) rfl
    refine body_wp rfl hsC rfl (G.weaken ?_ (least_round wm n wf wb hcf An Ax cn cx g3 l g6 W3 (leastM wm n s) x S2 R2 hR23 hR2w hx1 hcur hAnn hn)) ?_
    · exact St.le_of rfl ⟨⟨_,rfl,Blk.le_refl _⟩,⟨_,rfl,Blk.le_refl _⟩,⟨_,rfl,Blk.le_refl _⟩,⟨_,rfl,Blk.le_refl _⟩,trivial⟩ ⟨rfl,rfl,rfl,trivial⟩
    rintro e ρ st a w' hs ⟨rfl,m0,m3,m4,m5⟩
    have z0:=(hs.mem.bo (1000,g6) (.head _)).1
    have v0:=(hs.mem.ok 1000 _ m0).2.2.1
    simp only[z0]at v0
    have hfr3:=hs.mem.fr
    simp only[borT_snd]at hfr3
    refine⟨rfl,hfr3,?_⟩
    have s1:=hs.mem.ok 1 _ m3
    have s4:=hs.mem.ok 4 _ m4
    have s5:=hs.mem.ok 5 _ m5
    have hw1:W1.heap.size≤w'.heap.size:=by have:=hfr3.size;omega
    obtain⟨tk,htk⟩:∃tk,tk=takeL wm n (leastM wm n s) x:=⟨_,rfl⟩
    have hbs:leastM wm n (s++[x])=if tk=true then some x else leastM wm n s:=by rw[leastM_snoc,lstep,←htk]
    rw[←htk]at v0
    have hsx':∀y∈s++[x],y∈xs:=fun y hy=>by
      rcases List.mem_append.1 hy with h|h
      · exact hsx y h
      · rw[List.mem_singleton.1 h];exact hxm
    have hgl:Zk g6∧g6<w'.heap.size:=⟨(e1 _).2 (.inr rfl),by omega⟩
    unfold keepL
    rw[hbs]
    cases tk with
    |true=>
      refine⟨_,⟨.slice Ax x.length cx,fun _=>Iff.rfl,fun k hk=>⟨by have:=hxlo k hk;omega,(hv' k hk).2⟩,s1.1,v0,s5.1,(fun h=>by simp at h),hsx'⟩,?_⟩
      rintro k ((hk|hk)|rfl)
      · exact⟨.inr (.inl hk),s5.2.1 k hk⟩
      · exact⟨.inl ((e1 k).2 (.inl (.inr hk))),s1.2.1 k hk⟩
      · exact⟨.inl hgl.1,hgl.2⟩
    |false=>
      refine⟨_,⟨.slice An (curL (leastM wm n s)).length cn,fun _=>Iff.rfl,e2,s1.1,v0,s4.1,e8,hsx'⟩,?_⟩
      rintro k ((hk|hk)|rfl)
      · exact⟨.inl ((e1 k).2 (.inl (.inl hk))),s4.2.1 k hk⟩
      · exact⟨.inl ((e1 k).2 (.inl (.inr hk))),s1.2.1 k hk⟩
      · exact⟨.inl hgl.1,hgl.2⟩
  · rintro Zf W4 hfr ⟨nv,e1,e2,e3,e4,e7,e8,hsx⟩ hZf hK
    obtain⟨An,cn,rfl,hAn,hcn⟩:=e7
    obtain⟨D,hD⟩:∃D,D=w3.heap.size:=⟨_,rfl⟩
    rw[←hD]at hK ⊢
    have hD4:D<W4.heap.size:=lt_of_heap hK
    have d6:g6≠D:=by have:=(hZf g6 ((e1 g6).2 (.inr rfl))).2;omega
    have hnvD:∀k,sb (.slice An (curL (leastM wm n xs)).length cn) k→k<W4.heap.size∧k≠D:=fun k hk=>by have:=hZf k ((e1 k).2 (.inl (.inl hk)));omega
    have hAnn:An.isSome=(leastM wm n xs).isSome:=by
      cases hlm:leastM wm n xs with
      |none=>
        have:=e8 hlm
        injection this with h1 h2 h3
        rw[h1];rfl
      |some y=>
        have h0:0<(curL (leastM wm n xs)).length:=by
          rw[show curL (leastM wm n xs)=y from by rw[curL,hlm];rfl,hx y (leastM_mem wm n xs xs (fun _ h=>h) y hlm)];exact hn0
        obtain⟨b',o',e',_⟩:=hAn h0
        rw[e'];rfl
    have hsE:Sat ⟨W4,borT 1000 [g6,D],27,none,[{ target:=.collected D,args:=#[] }]⟩ (ρT 1000 [g6,D]) (St.of [(6,.v (.c (.k (Pt g6))))]
        [(1000,.var 22 [.k (.slice An (curL (leastM wm n xs)).length cn)]),(9,.say (·=D) (fun w=>w.heap[D]?=some (.deferred (some []))))]) { a3 with defers:={ target:=.collected D,args:=#[] }::a3.defers } W4:=by
      refine Sat.say0 (Nat.le_refl _) (by rw[hdf]) hsz3 ⟨by rw[k6];rfl,trivial⟩ ?_
      exact⟨⟨.head _,[_],⟨rfl,trivial⟩,e4⟩,⟨fun _=>d6,fun h=>h.elim,trivial⟩,⟨hK,(fun k hk=>by rw[hk];exact hD4),Steady.heap rfl⟩,trivial,trivial⟩
    have hsF:=hsE.toPtr (d:=6) (g:=g6) 1000 rfl (.head _) rfl
    refine raw_wp rfl hsF (K:=fun e st=>e=.ret∧St.le ⟨W4,borT 1000 [g6,D],27,none,[{ target:=.collected D,args:=#[] }]⟩ (St.of [(4,.v (.c (.k (.slice An (curL (leastM wm n xs)).length cn)))),(5,.v (.c (.k (.bool (leastM wm n xs).isSome))))] [(9,.say (·=D) (fun w=>w.heap[D]?=some (.deferred (some []))))]) st) ?_ ?_
    · refine G.seqD tfine hmix [0,0,2,1,15] [] rfl rfl rfl rfl trivial ?_
      exact G.ret ⟨rfl,St.le_of rfl ⟨⟨_,rfl,Blk.le_refl _⟩,trivial⟩ ⟨rfl,by rw[←hAnn];cases An<;>rfl,trivial⟩⟩
    · rintro e ρ st a w' hs ⟨rfl,hle⟩
      have hs':=hle _ _ _ hs
      have hs2:=hs'.shutD 9 (.deferred none) (D:=D) (.inr (by simp[borT])) rfl (fun z b hz hb=>by
        rcases lkM_mem (ml:=[(9,.say (·=D) (fun w=>w.heap[D]?=some (.deferred (some []))))]) (j:=z) with h|⟨q,hq,rfl,h2⟩
        · have hb:lkM _ z=some b:=hb
          rw[h]at hb;cases hb
        · simp at hq
          subst hq
          exact absurd rfl hz)
      have hfr4:=hs'.mem.fr
      simp only[borT_snd]at hfr4
      refine marks_end (.inl rfl) hs'.df (hs'.mem.ok 9 _ rfl).1 (results_run tfine hs2 rfl) ⟨.slice An (curL (leastM wm n xs)).length cn,rfl,?_,?_,?_⟩
      · refine Fr.toBelow (((hfrW.trans' hfr (fun k hk h=>?_)).trans' hfr4 (fun k hk h=>?_)).putObj (.inl (by omega)) _)
        · have h:k=g6:=by simpa using h
          omega
        · have h:k=g6∨k=D:=by simpa using h
          omega
      · refine steady_ints W4 _ (fun k hk=>?_) (by rw[World.putObj_size];exact hfr4.size) ⟨An,cn,rfl,hAn,hcn⟩
        have h5:=hnvD k hk
        have h6:=e2 k hk
        exact (World.putObj_heap_other h5.2).trans (hfr4.block k h5.1 (by simp;omega))
      · intro k hk
        have:=hnvD k hk
        have:=(e2 k hk).1
        rw[World.putObj_size]
        have:=hfr4.size
        omega
end Go.Proofs.Ytafhnfcahhlanaa
namespace Go.Proofs.Ytafhnfcahhlanaa
open Go.Sx Go.RowKit
theorem indexL_any (q:Nat→Bool) (f b:Nat) (hcf:∀(args:Array Value) (w:World),(callFunc f args).run Try.prog w=.ok (.enter f args) w) (A:Option Addr) (c:Nat) (L:List (List Int)) (vs:Nat→Value) (w:World) (hA:RdRow w A L.length 1 (fun i=>[vs i])) (hn:L.length≤100000)
    (hq:∀i,i<L.length→∀w1,Below w.heap.size w w1→Calls Try.prog f #[vs i,Pt b] w1 fun e w'=>e=.returned (.bool (q i))∧Below w1.heap.size w1 w'):
    Calls Try.prog 90 #[.slice A L.length c,.func (.func f) #[] #[Pt b]] w fun e w'=>e=.returned (I (firstI q 0 L.length))∧Below w.heap.size w w':=by
  refine enterPlain tfine Try.func90 rfl 19 Try.ntmps90 [.c (.inp 1000 A L.length c),.c (.k (.func (.func f) #[] #[Pt b]))] [⟨1000,A,1,L.length,fun i=>[vs i]⟩] rfl rfl ⟨hA,trivial⟩ ⟨.inl ⟨rfl,rfl,rfl⟩,trivial,trivial⟩ ?_
  refine G.seqR tfine rfl trivial ?_
  refine G.seq (G.seqR tfine rfl trivial ?_)
  refine G.block (G.loop (fun k:Nat=>St.of [(0,.v (.c (.inp 1000 A L.length c))),(1,.v (.c (.k (.func (.func f) #[] #[Pt b])))),(7,.v (.c (.k (I L.length)))),(8,.v (.c (.k (I k))))] [(1000,.ro 1 L.length (fun i=>[vs i]))])
    (fun k=>k≤L.length∧firstI q 0 L.length=firstI q k (L.length-k)) (fun k=>L.length-k) 0 ⟨by omega,by simp⟩ (St.le_of rfl ⟨⟨_,rfl,Blk.le_refl _⟩,trivial⟩ ⟨rfl,rfl,rfl,rfl,trivial⟩) ?_)
  rintro k ⟨hk,hfi⟩
  refine G.seqR tfine rfl trivial ?_
  refine G.seq (G.cond rfl (fun h=>?_) (fun h=>?_))
  rotate_left
  · have h:=of_decide_eq_false h
    have:k=L.length:=by omega
    subst this
    refine G.exit ?_
    refine G.seqR tfine rfl trivial ?_
    refine G.ret (endK.ret rfl ?_)
    rw[hfi]
    simp[firstI]
  have h:=of_decide_eq_true h
  have hlt:k<L.length:=by omega
  rw[firstI_cons q k _ (by omega)]at hfi
  refine G.skip ?_
  refine G.seq (G.block ?_)
  refine G.seqR tfine rfl trivial ?_
  refine G.seqC tfine rfl ⟨by simpa using hlt,by omega,by omega,trivial⟩ ?_
  rw[Int.toNat_natCast]
  refine GO.callPlain (v:=.bool (q k)) rfl rfl rfl rfl hcf (fun ρ w1 hs _=>hq k hlt w1 hs.fr.toBelow) (GO.nil ?_)
  refine G.cond (b:=q k) rfl (fun h2=>?_) (fun h2=>?_)
  · refine G.seqR tfine rfl trivial ?_
    refine G.ret (endK.ret rfl ?_)
    rw[hfi,if_pos h2]
  · refine G.skip ?_
    refine G.reg tfine rfl trivial ?_
    rw[IntWalk.i64_in _ (by omega)]
    rw[if_neg (by simpa using h2)]at hfi
    exact⟨k+1,⟨by omega,by rw[hfi];rfl⟩,(by show L.length-(k+1)<L.length-k;omega),St.le_of rfl ⟨⟨_,rfl,Blk.le_refl _⟩,trivial⟩ ⟨rfl,rfl,rfl,by simp[up,I],trivial⟩⟩
theorem containsL_any (q:Nat→Bool) (f b:Nat) (hcf:∀(args:Array Value) (w:World),(callFunc f args).run Try.prog w=.ok (.enter f args) w) (A:Option Addr) (c:Nat) (L:List (List Int)) (vs:Nat→Value) (w:World) (hA:RdRow w A L.length 1 (fun i=>[vs i])) (hn:L.length≤100000)
    (hq:∀i,i<L.length→∀w1,Below w.heap.size w w1→Calls Try.prog f #[vs i,Pt b] w1 fun e w'=>e=.returned (.bool (q i))∧Below w1.heap.size w1 w'):
    Calls Try.prog 49 #[.slice A L.length c,.func (.func f) #[] #[Pt b]] w fun e w'=>e=.returned (.bool (decide (firstI q 0 L.length≥0)))∧Below w.heap.size w w':=by
  refine enterPlain tfine Try.func49 rfl 9 Try.ntmps49 [.c (.inp 1000 A L.length c),.c (.k (.func (.func f) #[] #[Pt b]))] [⟨1000,A,1,L.length,fun i=>[vs i]⟩] rfl rfl ⟨hA,trivial⟩ ⟨.inl ⟨rfl,rfl,rfl⟩,trivial,trivial⟩ ?_
  refine G.seqR tfine rfl trivial ?_
  refine G.seqC tfine rfl trivial ?_
  refine GO.callPlain (v:=I (firstI q 0 L.length)) rfl rfl rfl rfl (fun args w=>Try.call90 args w) (fun ρ w1 hs hok=>indexL_any q f b hcf A c L vs w1 (hA.below hs.fr.toBelow) hn fun i hi w2 hb=>hq i hi w2 (hs.fr.below hb).toBelow) ?_
  refine GO.fin tfine rfl trivial ?_
  exact G.ret (endK.ret rfl rfl)
structure Prob where
  obj:List Int
  rows:List (List Int)
  lim:List Int
def ProbAt (w:World) (pv:Value) (p:Prob) (vs:Nat→Value):Prop:=∃ov rv lv,pv=.agg #[ov,rv,lv]∧IntsAt w ov p.obj∧MatAt w rv p.rows vs∧IntsAt w lv p.lim
theorem ProbAt.below {w w':World} {v:Value} {p:Prob} {vs:Nat→Value} (h:ProbAt w v p vs) (hb:Below w.heap.size w w'):ProbAt w' v p vs:=by
  obtain⟨ov,rv,lv,e,h1,h2,h3⟩:=h
  exact⟨ov,rv,lv,e,h1.below hb,h2.below hb,h3.below hb⟩
def badB2 (n:Int):Bool:=decide (n < -1000)||decide (n>1000)
theorem bad2_any (n:Int) (w:World):Calls Try.prog 48 #[I n] w fun e w'=>e=.returned (.bool (badB2 n))∧Below w.heap.size w w':=by
  refine enterPlain tfine Try.func48 rfl 9 Try.ntmps48 [.c (.k (I n))] [] rfl rfl trivial ⟨trivial,trivial⟩ ?_
  refine G.seqR tfine rfl trivial ?_
  refine G.seqR tfine rfl ?_ ?_
  · first|trivial|(simp[AllP,condB];done)|(simp only[AllP];and_intros<;>first|trivial|decide|omega)|(simp[AllP,condB];intros;and_intros<;>first|assumption|omega)|(simp[AllP,condB];intros;simp_all;done)
  exact G.ret (endK.ret rfl rfl)
def anyBad (l:List Int):Bool:=decide (firstI (fun k=>badB2 (l.getD k 0)) 0 l.length≥0)
theorem chk2_any (v:Value) (r:List Int) (b n:Nat) (w:World) (hv:IntsAt w v r) (hb:w.heap[b]?=some (.cells #[I n] 3 (0,0))):
    Calls Try.prog 50 #[v,Pt b] w fun e w'=>e=.returned (.bool ((r.length:Int) != (n:Int)))∧Below w.heap.size w w':=by
  obtain⟨A,c,rfl,hA,_⟩:=hv
  refine enterOld [.c (.k (.slice A r.length c)),.c (.k (Pt b))] Try.func50 rfl 8 Try.ntmps50 rfl rfl ⟨trivial,trivial,trivial⟩ ?_
  refine G.openPtr (b:=b) (ty:=3) (cs:=[I n]) 1 701 1 rfl (fun w' ha=>heap_asOf hb ha) (lt_of_heap hb) rfl rfl rfl ?_
  refine G.seqR tfine rfl trivial ?_
  refine G.seqR tfine rfl ⟨by decide,trivial⟩ ?_
  exact G.ret (retK.plain tfine rfl rfl)
theorem chk3_any (v:Value) (r:List Int) (b:Nat) (w:World) (hv:IntsAt w v r) (hn:r.length≤100000) (hb:w.heap[b]?=some (.cells #[.func (.func 48) #[] #[]] 44 (0,0))):
    Calls Try.prog 51 #[v,Pt b] w fun e w'=>e=.returned (.bool (anyBad r))∧Below w.heap.size w w':=by
  obtain⟨A,c,rfl,hA,_⟩:=hv
  refine enterOld [.c (.k (.slice A r.length c)),.c (.k (Pt b))] Try.func51 rfl 7 Try.ntmps51 rfl rfl ⟨trivial,trivial,trivial⟩ ?_
  refine G.openPtr (b:=b) (ty:=44) (cs:=[.func (.func 48) #[] #[]]) 1 701 1 rfl (fun w' ha=>heap_asOf hb ha) (lt_of_heap hb) rfl rfl rfl ?_
  refine G.seqR tfine rfl trivial ?_
  refine G.seqC tfine rfl ⟨by decide,trivial⟩ ?_
  refine GO.callPlain (v:=.bool (anyBad r)) rfl rfl rfl rfl (fun args w=>Try.call21 args w) (fun ρ w1 hs hok=>containsFunc_any 48 badB2 (fun args w=>Try.call48 args w) bad2_any A c r w1 (hA.below hs.fr.toBelow) (by omega)) ?_
  refine GO.fin tfine rfl trivial ?_
  exact G.ret (retK.plain tfine rfl rfl)
def anyRow (p:List Int→Bool) (M:List (List Int)):Bool:=decide (firstI (fun i=>p (M.getD i [])) 0 M.length≥0)
def checkM (p:Prob):Int:=
  if p.obj.length=0 then 9 else if p.obj.length>3∨p.rows.length>4 then 8
  else if p.lim.length≠p.rows.length∨anyRow (fun r=>(r.length:Int) != (p.obj.length:Int)) p.rows=true then 10
  else if anyBad p.obj=true∨anyBad p.lim=true then 2 else if anyRow anyBad p.rows=true then 2 else 0
theorem check_any (p:Prob) (pv:Value) (vs:Nat→Value) (w:World) (hp:ProbAt w pv p vs) (h1:p.obj.length≤100000) (h2:p.rows.length≤100000) (h3:p.lim.length≤100000) (h4:∀r∈p.rows,r.length≤100000):
    Calls Try.prog 13 #[pv] w fun e w'=>e=.returned (I (checkM p))∧Below w.heap.size w w':=by
  obtain⟨ov,rv,lv,rfl,⟨Ao,co,rfl,ho,_⟩,⟨Ar,cr,rfl,hr,_,hri⟩,⟨Al,cl,rfl,hl,_⟩⟩:=hp
  have hrow:∀i,i<p.rows.length→(p.rows.getD i []).length≤100000:=fun i hi=>h4 _ (by rw[List.getD_eq_getElem?_getD,List.getElem?_eq_getElem hi];exact List.getElem_mem hi)
  refine enterSay [] [.agg [.k (.slice Ao p.obj.length co),.k (.slice Ar p.rows.length cr),.k (.slice Al p.lim.length cl)]] [] Try.func13 rfl 50 Try.ntmps13 rfl rfl ⟨⟨trivial,trivial,trivial,trivial⟩,trivial⟩ trivial ?_
  refine G.seqR tfine rfl trivial ?_
  refine G.seqR tfine rfl trivial ?_
  refine G.seqR tfine rfl trivial ?_
  refine G.seq ?_
  refine G.block ?_
  refine G.seqR tfine rfl trivial ?_
  refine G.cond (b:=((p.obj.length:Int)==0)) rfl (fun h=>?_) (fun h=>?_)
  · have h:(p.obj.length:Int)=0:=by simpa using h
    refine G.seqR tfine rfl trivial ?_
    exact G.ret (retK.plain tfine rfl (by rw[checkM,if_pos (by omega)]))
  have g1:¬p.obj.length=0:=by
    have h:¬(p.obj.length:Int)=0:=by simpa using h
    omega
  refine G.seqR tfine rfl ?_ ?_
  · first|trivial|(simp[AllP,condB];done)|(simp only[AllP];and_intros<;>first|trivial|decide|omega)|(simp[AllP,condB];intros;and_intros<;>first|assumption|omega)|(simp[AllP,condB];intros;simp_all;done)
  refine G.cond (b:=decide ((p.obj.length:Int)>3)||decide ((p.rows.length:Int)>4)) ?_ (fun h=>?_) (fun h=>?_)
  · generalize decide ((p.obj.length:Int)>3)=a
    generalize decide ((p.rows.length:Int)>4)=b
    cases a<;>cases b<;>rfl
  · have h:p.obj.length>3∨p.rows.length>4:=by
      have h:((p.obj.length:Int)>3)∨((p.rows.length:Int)>4):=by simpa using h
      omega
    refine G.seqR tfine rfl trivial ?_
    exact G.ret (retK.plain tfine rfl (by rw[checkM,if_neg g1,if_pos h]))
  have g2:¬(p.obj.length>3∨p.rows.length>4):=by
    have h:¬(((p.obj.length:Int)>3)∨((p.rows.length:Int)>4)):=by simpa using h
    omega
  refine G.seqC tfine rfl ?_ ?_
  · first|trivial|(simp[AllP,condB];done)|(simp only[AllP];and_intros<;>first|trivial|decide|omega)|(simp[AllP,condB];intros;and_intros<;>first|assumption|omega)|(simp[AllP,condB];intros;simp_all;done)
  refine GO.steps (Steps.opGuard tfine rfl rfl trivial rfl rfl trivial rfl) ?_
  refine GO.callGuard (.bool (anyRow (fun r=>(r.length:Int) != (p.obj.length:Int)) p.rows)) rfl rfl rfl ?_ rfl rfl (fun args w=>Try.call49 args w) rfl (fun _ m' hle ρ w1 hs hok=>?_) ?_
  · exact⟨id,id,trivial⟩
  · have hb:=hs.fr.toBelow
    have k3:=hs.ok 3 _ (hle.at rfl)
    have h3:w1.heap[(ρ 3).1]?=some (.cells #[I p.obj.length] 3 (0,0)):=by simpa[AC.conc] using k3.2.2.1
    have:=containsL_any (fun i=>((p.rows.getD i []).length:Int) != (p.obj.length:Int)) 50 (ρ 3).1 (fun args w=>Try.call50 args w) Ar cr p.rows vs w1 (hr.below hb) h2 fun i hlt w2 hb2=>
      chk2_any (vs i) (p.rows.getD i []) (ρ 3).1 p.obj.length w2 (((hri i hlt).below hb).below hb2) ((hb2.block _ (lt_of_heap h3)).trans h3)
    have e:(List.map (AV.conc ρ) [AV.c (.k (.slice Ar p.rows.length cr)),AV.c (.fn 50 [.own 3 0])]++List.map (Cap.conc ρ) []).toArray=#[.slice Ar p.rows.length cr,.func (.func 50) #[] #[Pt (ρ 3).1]]:=by
      simp[AV.conc,AC.conc,Cap.conc,Pt,k3.1]
    rw[←e]at this
    exact this
  refine GO.fin tfine rfl ?_ ?_
  · first|trivial|(simp[AllP,condB];done)|(simp only[AllP];and_intros<;>first|trivial|decide|omega)|(simp[AllP,condB];intros;and_intros<;>first|assumption|omega)|(simp[AllP,condB];intros;simp_all;done)
  obtain⟨ar,har⟩:∃ar,ar=anyRow (fun r=>(r.length:Int) != (p.obj.length:Int)) p.rows:=⟨_,rfl⟩
  rw[←har]
  refine G.cond (b:=((p.lim.length:Int) != (p.rows.length:Int))||ar) ?_ (fun h=>?_) (fun h=>?_)
  · generalize ((p.lim.length:Int) != (p.rows.length:Int))=a
    cases a<;>cases ar<;>rfl
  · have h:p.lim.length≠p.rows.length∨ar=true:=by
      have h:(¬(p.lim.length:Int)=(p.rows.length:Int))∨ar=true:=by simpa using h
      rcases h with h|h
      · exact .inl (by omega)
      · exact .inr h
    refine G.seqR tfine rfl trivial ?_
    exact G.ret (retK.plain tfine rfl (by rw[checkM,if_neg g1,if_neg g2,←har,if_pos h]))
  have g3:¬(p.lim.length≠p.rows.length∨ar=true):=by
    have h:(p.lim.length:Int)=(p.rows.length:Int)∧ar=false:=by simpa using h
    rintro (h'|h')
    · exact h' (by omega)
    · rw[h.2]at h';cases h'
  refine G.seqC tfine rfl ?_ ?_
  · first|trivial|(simp[AllP,condB];done)|(simp only[AllP];and_intros<;>first|trivial|decide|omega)|(simp[AllP,condB];intros;and_intros<;>first|assumption|omega)|(simp[AllP,condB];intros;simp_all;done)
  refine GO.callPlain (v:=.bool (anyBad p.obj)) rfl rfl rfl rfl (fun args w=>Try.call21 args w) (fun ρ w1 hs hok=>containsFunc_any 48 badB2 (fun args w=>Try.call48 args w) bad2_any Ao co p.obj w1 (ho.below hs.fr.toBelow) (by omega)) ?_
  refine GO.more tfine rfl ?_ ?_
  · first|trivial|(simp[AllP,condB];done)|(simp only[AllP];and_intros<;>first|trivial|decide|omega)|(simp[AllP,condB];intros;and_intros<;>first|assumption|omega)|(simp[AllP,condB];intros;simp_all;done)
  refine GO.callGuard (.bool (anyBad p.lim)) rfl rfl rfl ?_ rfl rfl (fun args w=>Try.call21 args w) rfl (fun _ m' hle ρ w1 hs hok=>containsFunc_any 48 badB2 (fun args w=>Try.call48 args w) bad2_any Al cl p.lim w1 (hl.below hs.fr.toBelow) (by omega)) ?_
  · first|exact trivial|exact⟨id,trivial⟩|exact⟨id,id,trivial⟩
  refine GO.fin tfine rfl ?_ ?_
  · first|trivial|(simp[AllP,condB];done)|(simp only[AllP];and_intros<;>first|trivial|decide|omega)|(simp[AllP,condB];intros;and_intros<;>first|assumption|omega)|(simp[AllP,condB];intros;simp_all;done)
  refine G.cond (b:=anyBad p.obj||anyBad p.lim) ?_ (fun h=>?_) (fun h=>?_)
  · generalize anyBad p.obj=a
    generalize anyBad p.lim=b
    cases a<;>cases b<;>rfl
  · have h:anyBad p.obj=true∨anyBad p.lim=true:=by simpa using h
    refine G.seqR tfine rfl trivial ?_
    exact G.ret (retK.plain tfine rfl (by rw[checkM,if_neg g1,if_neg g2,←har,if_neg g3,if_pos h]))
  have g4:¬(anyBad p.obj=true∨anyBad p.lim=true):=by
    have h:anyBad p.obj=false∧anyBad p.lim=false:=by simpa using h
    rw[h.1,h.2];simp
  refine G.seqC tfine rfl ?_ ?_
  · first|trivial|(simp[AllP,condB];done)|(simp only[AllP];and_intros<;>first|trivial|decide|omega)|(simp[AllP,condB];intros;and_intros<;>first|assumption|omega)|(simp[AllP,condB];intros;simp_all;done)
  refine GO.callPlain (v:=.bool (anyRow anyBad p.rows)) rfl rfl rfl rfl (fun args w=>Try.call49 args w) (fun ρ w1 hs hok=>?_) ?_
  · have hb:=hs.fr.toBelow
    have k4:=hs.ok 4 _ rfl
    have h4:w1.heap[(ρ 4).1]?=some (.cells #[.func (.func 48) #[] #[]] 44 (0,0)):=by simpa[AC.conc] using k4.2.2.1
    have:=containsL_any (fun i=>anyBad (p.rows.getD i [])) 51 (ρ 4).1 (fun args w=>Try.call51 args w) Ar cr p.rows vs w1 (hr.below hb) h2 fun i hlt w2 hb2=>
      chk3_any (vs i) (p.rows.getD i []) (ρ 4).1 w2 (((hri i hlt).below hb).below hb2) (hrow i hlt) ((hb2.block _ (lt_of_heap h4)).trans h4)
    have e:(List.map (AV.conc ρ) [AV.c (.k (.slice Ar p.rows.length cr)),AV.c (.fn 51 [.own 4 0])]++List.map (Cap.conc ρ) []).toArray=#[.slice Ar p.rows.length cr,.func (.func 51) #[] #[Pt (ρ 4).1]]:=by
      simp[AV.conc,AC.conc,Cap.conc,Pt,k4.1]
    rw[←e]at this
    exact this
  refine GO.fin tfine rfl trivial ?_
  refine G.cond (b:=anyRow anyBad p.rows) rfl (fun h=>?_) (fun h=>?_)
  · refine G.seqR tfine rfl trivial ?_
    exact G.ret (retK.plain tfine rfl (by rw[checkM,if_neg g1,if_neg g2,←har,if_neg g3,if_neg g4,if_pos h]))
  refine G.skip ?_
  refine G.seqR tfine rfl trivial ?_
  exact G.ret (retK.plain tfine rfl (by rw[checkM,if_neg g1,if_neg g2,←har,if_neg g3,if_neg g4,if_neg (by rw[h];decide)]))
end Go.Proofs.Ytafhnfcahhlanaa
namespace Go.Proofs.Ytafhnfcahhlanaa
open Go.Sx Go.RowKit
def consV (N:Nat) (g:Option Addr×Nat):Value:=.slice g.1 N g.2
abbrev ConI:=(Option Addr×Nat)×(Nat→Value)×(Nat→Prop)
def ConsR (L:List Cond) (i:ConI) (w:World):Prop:=ConsAt w (consV L.length i.1) L i.2.1∧(∀k,sb (consV L.length i.1) k→i.2.2 k)∧∀j,j<L.length→∀k,sb (i.2.1 j) k→i.2.2 k
def ConsA (L:List Cond) (w w':World) (e:Ending):Prop:=∃i:ConI,e=.returned (consV L.length i.1)∧Below w.heap.size w w'∧ConsR L i w'∧(∀k,i.2.2 k→w.heap.size≤k∧k<w'.heap.size)∧Steady i.2.2 (ConsR L i)
theorem consR_steady {L:List Cond} {i:ConI}:Steady i.2.2 (ConsR L i):=by
  obtain⟨g,us,S⟩:=i
  rintro w1 w2 h1 h2 ⟨⟨A,c,e,h3,h4,h5⟩,h6,h7⟩
  have e':g=(A,c):=by
    injection e with e1 e2 e3
    exact Prod.ext e1 e3
  subst e'
  exact⟨⟨A,c,rfl,steady_row (cap:=c) w1 w2 (fun k hk=>h1 k (h6 k hk)) h2 h3,h4,fun j hj=>steady_ints w1 w2 (fun k hk=>h1 k (h7 j hj k hk)) h2 (h5 j hj)⟩,h6,h7⟩
theorem ret_cons {w:World} {N:Nat} {fn:Func} {st:St} {L:List Cond} {g c X Y:Nat} {us:Nat→Value} {SR:Nat→Prop} (h:resP TT st fn.results.toList=.mk (.slice (some ⟨g,0,none⟩) L.length c)) (hg:w.heap.size≤g) (hc:L.length≤c) (hS:∀k,SR k→w.heap.size≤k) (hU:∀j,j<L.length→∀k,sb (us j) k→SR k) (hX:st.m X=some (.say (·=g) (fun w=>RdRow w (some ⟨g,0,none⟩) L.length 2 (elC L us)))) (hY:st.m Y=some (.say SR (fun w=>∀j,j<L.length→IntsAt w (us j) (cAt L j).1))):
    retK Try.prog ⟨w,[],N,none,[]⟩ fn (fun e w'=>ConsA L w w' e) .ret st:=by
  refine⟨.inl rfl,fun ρ a w' hs=>⟨_,results_run tfine hs h,?_⟩⟩
  obtain⟨x1,x2,_⟩:=hs.mem.ok X _ hX
  obtain⟨y1,y2,y3⟩:=hs.mem.ok Y _ hY
  refine⟨((some ⟨g,0,none⟩,c),us,fun k=>SR k∨sb (consV L.length (some ⟨g,0,none⟩,c)) k),rfl,hs.mem.fr.toBelow,⟨⟨_,_,rfl,x1,fun _=>hc,y1⟩,fun k hk=>.inr hk,fun j hj k hk=>.inl (hU j hj k hk)⟩,?_,consR_steady⟩
  rintro k (hk|⟨_,a,e,rfl⟩)
  · exact⟨hS k hk,y2 k hk⟩
  · cases e
    exact⟨hg,x2 _ rfl⟩
theorem steady_snoc {SR S':Nat→Prop} {us:Nat→Value} {L:List Cond} {v:Value} {i:Nat} (s1:Steady SR (fun w=>∀j,j<i→IntsAt w (us j) (cAt L j).1)) (h1:∀k,SR k→S' k) (h2:∀k,sb v k→S' k):Steady S' (fun w=>∀j,j<i+1→IntsAt w ((fun j=>if j=i then v else us j) j) (cAt L j).1):=by
  intro w1 w2 a1 a2 a3 j hj
  by_cases e:j=i
  · subst e
    have h3:=a3 j hj
    simp only[if_pos]at h3 ⊢
    exact steady_ints w1 w2 (fun k hk=>a1 k (h2 k hk)) a2 h3
  · have h3:=s1 w1 w2 (fun k hk=>a1 k (h1 k hk)) a2 (fun j' hj'=>by have:=a3 j' (by omega);simp only[if_neg (show j'≠i by omega)]at this;exact this) j (by omega)
    simp only[if_neg e]
    exact h3
theorem snoc_sb {SR:Nat→Prop} {us:Nat→Value} {g n c i:Nat} (h:∀j,j<i→∀k,sb (us j) k→SR k):∀j,j<i+1→∀k,sb ((fun j=>if j=i then Value.slice (some ⟨g,0,none⟩) n c else us j) j) k→SR k∨k=g:=fun j hj k hk=>by
  by_cases e:j=i
  · simp only[if_pos e]at hk
    obtain⟨_,a,e2,rfl⟩:=hk
    cases e2;exact .inr rfl
  · simp only[if_neg e]at hk
    exact .inl (h j (by omega) k hk)
theorem snoc_el {us:Nat→Value} {L:List Cond} {v:Value} {c:Int} {i:Nat} (hc:(cAt L i).2=c):∀j,j<i+1→[(fun j=>if j=i then v else us j) j,I (cAt L j).2]=elN (fun j=>[us j,I (cAt L j).2]) i [v,I c] j:=fun j hj=>by
  by_cases e:j=i
  · subst e;rw[elN_eq,←hc];simp
  · rw[elN_lt (by omega)];simp only[if_neg e]
theorem snoc_ints {us:Nat→Value} {L:List Cond} {v:Value} {i:Nat} {w:World} (ha:∀j,j<i→IntsAt w (us j) (cAt L j).1) (hb:IntsAt w v (cAt L i).1):∀j,j<i+1→IntsAt w ((fun j=>if j=i then v else us j) j) (cAt L j).1:=fun j hj=>by
  by_cases e:j=i
  · subst e;simp only[if_pos];exact hb
  · simp only[if_neg e];exact ha j (by omega)
def negRow (p:Prob) (f:Int) (i:Nat):Cond:=(negW (p.rows.getD i []),W (W (0-f)*p.lim.getD i 0))
def primalM (p:Prob) (f:Int):List Cond:=(List.range p.obj.length).map (fun i=>(unitL p.obj.length i,0))++(List.range p.rows.length).map (negRow p f)
theorem primalM_len (p:Prob) (f:Int):(primalM p f).length=p.obj.length+p.rows.length:=by simp[primalM]
theorem primalM_lo (p:Prob) (f:Int) (i:Nat) (h:i<p.obj.length):cAt (primalM p f) i=(unitL p.obj.length i,0):=by
  simp[cAt,primalM,List.getD_eq_getElem?_getD,List.getElem?_append_left (show i<((List.range p.obj.length).map fun i=>(unitL p.obj.length i,(0:Int))).length by simpa using h),List.getElem?_map,List.getElem?_range h]
theorem primalM_hi (p:Prob) (f:Int) (i:Nat) (h:i<p.rows.length):cAt (primalM p f) (i+p.obj.length)=negRow p f i:=by
  rw[cAt,primalM,List.getD_eq_getElem?_getD,List.getElem?_append_right (by simp)]
  simp[List.getElem?_map,List.getElem?_range h]
theorem mixN_step (l:List Int) (j q:Nat) (hj:j<l.length):mixE l (negW l) (j+1) q=bif Nat.beq q (0+(j:Int).toNat) then [Value.int .i64 (IntKind.i64.wrap (0-(if 0+(j:Int).toNat<j then (negW l).getD (0+(j:Int).toNat) 0 else l.getD (0+(j:Int).toNat) 0)))] else mixE l (negW l) j q:=by
  rw[Int.toNat_natCast,Nat.zero_add,if_neg (Nat.lt_irrefl j)]
  by_cases e:q=j
  · subst e
    rw[Nat.beq_refl,cond_true,mixE,if_pos (Nat.lt_succ_self q),negW_get l q hj]
  · rw[nbeq e,cond_false]
    unfold mixE
    by_cases h:q<j
    · rw[if_pos h,if_pos (by omega)]
    · rw[if_neg h,if_neg (by omega)]
theorem primal_any (p:Prob) (pv:Value) (vs0:Nat→Value) (f:Int) (n:Nat) (w:World) (hp:ProbAt w pv p vs0) (hn:p.obj.length=n+1) (h1:n+1≤1000) (h2:p.rows.length≤1000) (h3:p.lim.length=p.rows.length) (h4:∀r∈p.rows,r.length=n+1):
    Calls Try.prog 34 #[pv,I f] w fun e w'=>ConsA (primalM p f) w w' e:=by
  obtain⟨ov,rv,lv,rfl,⟨Ao,co,rfl,ho,_⟩,⟨Ar,cr,rfl,hr,_,hri⟩,⟨Al,cl,rfl,hl,_⟩⟩:=hp
  rw[hn]at ho ⊢
  obtain⟨L,hL⟩:∃L,L=primalM p f:=⟨_,rfl⟩
  rw[←hL]
  have hLl:L.length=p.rows.length+(n+1):=by rw[hL,primalM_len,hn];omega
  have hLlo:∀i,i<n+1→cAt L i=(unitL (n+1) i,0):=fun i hi=>by rw[hL,primalM_lo p f i (by omega),hn]
  have hLhi:∀i,i<p.rows.length→cAt L (i+(n+1))=negRow p f i:=fun i hi=>by rw[hL,←hn];exact primalM_hi p f i hi
  refine enterSay [] [.agg [.k (.slice Ao (n+1) co),.k (.slice Ar p.rows.length cr),.k (.slice Al p.lim.length cl)],.c (.k (I f))] [(990,.say (· < w.heap.size) (asOf w))] Try.func34 rfl 66 Try.ntmps34 rfl rfl ⟨⟨trivial,trivial,trivial,trivial⟩,trivial,trivial⟩ ⟨⟨asOf.refl w,fun k hk=>hk,steady_asOf w⟩,trivial,trivial⟩ ?_
  refine G.seqR tfine rfl trivial ?_
  refine G.seqR tfine rfl trivial ?_
  refine G.seq ?_
  refine G.seqR tfine rfl trivial ?_
  refine G.newNil 25 2 (fun j=>[undef,I (cAt L j).2]) rfl ?_
  refine G.tellF 839 (fun w=>∀j,j<0→IntsAt w undef (cAt L j).1) (fun w j hj=>by omega) rfl ?_
  refine G.block (G.loop (fun z:Nat×Nat×(Nat→Value)×(Nat→Prop)=>St.of [(1,.v (.c (.k (I f)))),(2,.v (.c (.ptr 2 0 0 0))),(5,.v (.c (accV 25 2 z.1 z.2.1))),(13,.v (.c (.k (I ((n+1:Nat):Int))))),(14,.v (.c (.k (I z.1))))]
      [(990,.say (· < w.heap.size) (asOf w)),(2,.var 25 [.k (.slice Ao (n+1) co),.k (.slice Ar p.rows.length cr),.k (.slice Al p.lim.length cl)]),(25,accB 95 2 z.1 z.2.1 (fun j=>[z.2.2.1 j,I (cAt L j).2])),(839,.say z.2.2.2 (fun w=>∀j,j<z.1→IntsAt w (z.2.2.1 j) (cAt L j).1))])
    (fun z=>z.1≤n+1∧z.1≤z.2.1∧(∀k,z.2.2.2 k→w.heap.size≤k)∧∀j,j<z.1→∀k,sb (z.2.2.1 j) k→z.2.2.2 k) (fun z=>n+1-z.1) (0,0,(fun _=>undef),fun _=>False) ⟨Nat.zero_le _,Nat.le_refl _,fun k hk=>hk.elim,fun j hj=>absurd hj (Nat.not_lt_zero j)⟩ (St.le_of rfl ⟨⟨_,rfl,Blk.le_refl _⟩,⟨_,rfl,Blk.le_refl _⟩,⟨_,rfl,Blk.le_refl _⟩,⟨_,rfl,Blk.le_refl _⟩,trivial⟩ ⟨rfl,rfl,rfl,rfl,rfl,trivial⟩) ?_)
  rintro⟨i,cp,us,SR⟩ ⟨hi,hcp,hSR,hU⟩
  simp only at hi hcp hSR hU
  refine G.seqR tfine rfl trivial ?_
  refine G.seq ?_
  refine G.cond (b:=decide ((i:Int)<((n+1:Nat):Int))) rfl (fun h5=>?_) (fun h5=>?_)
  · have h5:=of_decide_eq_true h5
    have hlt:i<n+1:=by omega
    refine G.skip ?_
    refine G.seq ?_
    refine G.block ?_
    refine G.seqR tfine rfl trivial ?_
    refine G.region_lit ?_
    refine GO.moveAny tfine rfl (.inl rfl) rfl rfl rfl ?_
    refine GO.more tfine rfl trivial ?_
    refine GO.callCap 22 3 (n+1) 1 (elI (unitL (n+1) i)) rfl rfl rfl rfl rfl rfl (fun args w=>Try.call79 args w) (fun ρ w hs hok=>unit_any (n+1) i w hlt (by omega)) fun cu hcu=>?_
    refine GO.freezeArr 22 22 rfl rfl (Nat.le_refl _) fun g hg=>?_
    have hg:w.heap.size≤g:=hg.elim id (fun h=>by cases h)
    refine GO.more tfine rfl trivial ?_
    refine GO.appendAccB (n:=i) (c:=cp) (el:=fun j=>[us j,I (cAt L j).2]) [.slice (some ⟨g,0,none⟩) (n+1) cu,I 0] [(1,.v (.c (.k (I f)))),(2,.v (.c (.ptr 2 0 0 0))),(13,.v (.c (.k (I ((n+1:Nat):Int))))),(14,.v (.c (.k (I i))))]
        [(990,.say (· < w.heap.size) (asOf w)),(2,.var 25 [.k (.slice Ao (n+1) co),.k (.slice Ar p.rows.length cr),.k (.slice Al p.lim.length cl)]),(839,.say SR (fun w=>∀j,j<i→IntsAt w (us j) (cAt L j).1)),(22,.say (·=g) (fun w=>RdRow w (some ⟨g,0,none⟩) (n+1) 1 (elI (unitL (n+1) i))))] apCo rfl rfl rfl rfl rfl rfl rfl rfl rfl rfl (fun u hu=>by simp at hu;rcases hu with rfl|rfl<;>rfl)
      (St.le_of rfl ⟨⟨_,rfl,Blk.le_refl _⟩,⟨_,rfl,Blk.le_refl _⟩,⟨_,rfl,Blk.le_refl _⟩,⟨_,rfl,Blk.le_refl _⟩,trivial⟩ ⟨rfl,rfl,rfl,rfl,trivial⟩) (subM.fr ⟨rfl,nx rfl,rfl,nx rfl,rfl,nx rfl,rfl,nx rfl,trivial⟩) (fun k hk=>rfl) (by unfold maxLen;omega) (by omega) fun c' hc'=>?_
    refine GO.fin tfine rfl trivial ?_
    have hvi:∀w,RdRow w (some ⟨g,0,none⟩) (n+1) 1 (elI (unitL (n+1) i))→IntsAt w (.slice (some ⟨g,0,none⟩) (n+1) cu) (cAt L i).1:=fun w h=>by
      rw[hLlo i hlt]
      exact⟨_,cu,by rw[unitL_len],by rw[unitL_len];exact h,fun _=>by rw[unitL_len];exact hcu⟩
    refine G.bothS 839 839 22 (fun k=>SR k∨k=g) (fun w=>∀j,j<i+1→IntsAt w ((fun j=>if j=i then .slice (some ⟨g,0,none⟩) (n+1) cu else us j) j) (cAt L j).1) rfl rfl (fun k hk=>hk) (fun s1 s2=>steady_snoc s1 (fun k hk=>.inl hk) (fun k ⟨_,a,e,hk⟩=>by cases e;exact .inr hk.symm)) (fun w ha hb=>snoc_ints ha (hvi w hb)) (fun b hb=>⟨_,_,(Option.some.inj hb).symm⟩) ?_
    refine G.reg tfine rfl trivial ?_
    rw[IntWalk.i64_in ((i:Int)+1) (by omega)]
    refine⟨(i+1,c',(fun j=>if j=i then .slice (some ⟨g,0,none⟩) (n+1) cu else us j),fun k=>SR k∨k=g),⟨by simp only;omega,hc',fun k hk=>hk.elim (hSR k) (fun e=>by rw[e];exact hg),snoc_sb hU⟩,(by show n+1-(i+1)<n+1-i;omega),?_⟩
    exact St.le_of rfl ⟨⟨_,rfl,Blk.le_refl _⟩,⟨_,rfl,Blk.le_refl _⟩,⟨_,rfl,rfl,rfl,Nat.le_refl _,snoc_el (by rw[hLlo i hlt]),Nat.le_refl _⟩,⟨_,rfl,Blk.le_refl _⟩,trivial⟩ ⟨rfl,rfl,rfl,rfl,by simp[up,I],trivial⟩
  have h5:=of_decide_eq_false h5
  have:i=n+1:=by omega
  subst this
  refine G.exit ?_
  clear h5 hi
  refine G.weaken (st':=St.of [(1,.v (.c (.k (I f)))),(2,.v (.c (.ptr 2 0 0 0))),(5,.v (.c (.slc 25 0 2 (n+1) cp)))]
      [(990,.say (· < w.heap.size) (asOf w)),(2,.var 25 [.k (.slice Ao (n+1) co),.k (.slice Ar p.rows.length cr),.k (.slice Al p.lim.length cl)]),(25,.arr 95 2 (n+1) (fun j=>[us j,I (cAt L j).2]) ((cp-(n+1))*2)),(839,.say SR (fun w=>∀j,j<n+1→IntsAt w (us j) (cAt L j).1))])
    (St.le_of rfl ⟨⟨_,rfl,Blk.le_refl _⟩,⟨_,rfl,Blk.le_refl _⟩,⟨_,rfl,Blk.le_refl _⟩,⟨_,rfl,Blk.le_refl _⟩,trivial⟩ ⟨rfl,rfl,rfl,trivial⟩) ?_
  refine G.rn 25 63 rfl trivial rfl rfl rfl ?_
  refine G.seq ?_
  refine G.seqR tfine rfl trivial ?_
  refine G.openSay (el:=fun i=>[vs0 i]) (sz:=1) 990 702 28 rfl (fun w' ha=>hr.asOf ha) (fun k hk=>sb_lt hr k hk) rfl rfl rfl ?_
  refine G.block (G.loop (fun z:Nat×Nat×(Nat→Value)×(Nat→Prop)=>St.of [(1,.v (.c (.k (I f)))),(2,.v (.c (.ptr 2 0 0 0))),(5,.v (.c (.slc 63 0 2 (z.1+(n+1)) z.2.1))),(28,.v (.c (.inp 702 Ar p.rows.length cr))),(29,.v (.c (.k (I p.rows.length)))),(30,.v (.c (.k (I z.1))))]
      [(990,.say (· < w.heap.size) (asOf w)),(2,.var 25 [.k (.slice Ao (n+1) co),.k (.slice Ar p.rows.length cr),.k (.slice Al p.lim.length cl)]),(702,.ro 1 p.rows.length (fun i=>[vs0 i])),(63,.arr 95 2 (z.1+(n+1)) (fun j=>[z.2.2.1 j,I (cAt L j).2]) ((z.2.1-(z.1+(n+1)))*2)),(839,.say z.2.2.2 (fun w=>∀j,j<z.1+(n+1)→IntsAt w (z.2.2.1 j) (cAt L j).1))])
    (fun z=>z.1≤p.rows.length∧z.1+(n+1)≤z.2.1∧(∀k,z.2.2.2 k→w.heap.size≤k)∧∀j,j<z.1+(n+1)→∀k,sb (z.2.2.1 j) k→z.2.2.2 k) (fun z=>p.rows.length-z.1) (0,cp,us,SR) ⟨Nat.zero_le _,by simp only;omega,hSR,by simp only[Nat.zero_add];exact hU⟩ ?_ ?_)
  · rw[show (0:Nat)+(n+1)=n+1 from Nat.zero_add _]
    exact St.le_of rfl ⟨⟨_,rfl,Blk.le_refl _⟩,⟨_,rfl,Blk.le_refl _⟩,⟨_,rfl,Blk.le_refl _⟩,⟨_,rfl,Blk.le_refl _⟩,⟨_,rfl,Blk.le_refl _⟩,trivial⟩ ⟨rfl,rfl,rfl,rfl,rfl,rfl,trivial⟩
  clear hSR hcp hU
  rintro⟨i,cp,us,SR⟩ ⟨hi,hcp,hSR,hU⟩
  simp only at hi hcp hSR hU
  refine G.seqR tfine rfl trivial ?_
  refine G.seq ?_
  refine G.cond (b:=decide ((i:Int)<(p.rows.length:Int))) rfl (fun h5=>?_) (fun h5=>?_)
  · have h5:=of_decide_eq_true h5
    have hlt:i<p.rows.length:=by omega
    refine G.skip ?_
    refine G.seq ?_
    refine G.block ?_
    refine G.seqR tfine rfl ⟨by omega,by omega,by omega,trivial⟩ ?_
    rw[Int.toNat_natCast]
    obtain⟨row,hrow⟩:∃row,row=p.rows.getD i []:=⟨_,rfl⟩
    have hrl:row.length=n+1:=by rw[hrow];exact h4 _ (by rw[List.getD_eq_getElem?_getD,List.getElem?_eq_getElem hlt];exact List.getElem_mem hlt)
    obtain⟨Aq,cq,hvq,hAq,_⟩:=hri i hlt
    rw[←hrow,hrl]at hvq hAq
    refine G.seqC tfine rfl trivial ?_
    refine GO.callCap 36 3 (n+1) 1 (elI row) rfl rfl rfl rfl rfl rfl (fun args w=>Try.call26 args w) (fun ρ w1 hs hok=>?_) fun cc hcc=>?_
    · show Calls Try.prog _ #[vs0 i] w1 _
      rw[hvq]
      have:=cloneC_any Aq cq row w1 (by rw[hrl];exact hAq.asOf (hs.ok 990 _ rfl).1) (by omega) (by omega)
      rw[hrl]at this
      exact this
    refine GO.fin tfine rfl trivial ?_
    refine G.seq ?_
    refine G.seqR tfine rfl trivial ?_
    refine G.block (G.loop (fun j:Nat=>St.of [(1,.v (.c (.k (I f)))),(2,.v (.c (.ptr 2 0 0 0))),(5,.v (.c (.slc 63 0 2 (i+(n+1)) cp))),(7,.v (.c (.k (I i)))),(9,.v (.c (.slc 36 0 1 (n+1) cc))),(28,.v (.c (.inp 702 Ar p.rows.length cr))),(29,.v (.c (.k (I p.rows.length)))),(30,.v (.c (.k (I i)))),(38,.v (.c (.k (I ((n+1:Nat):Int))))),(39,.v (.c (.k (I j))))]
        [(990,.say (· < w.heap.size) (asOf w)),(2,.var 25 [.k (.slice Ao (n+1) co),.k (.slice Ar p.rows.length cr),.k (.slice Al p.lim.length cl)]),(702,.ro 1 p.rows.length (fun i=>[vs0 i])),(63,.arr 95 2 (i+(n+1)) (fun j=>[us j,I (cAt L j).2]) ((cp-(i+(n+1)))*2)),(839,.say SR (fun w=>∀j,j<i+(n+1)→IntsAt w (us j) (cAt L j).1)),(36,.arr 3 1 (n+1) (mixE row (negW row) j) ((cc-(n+1))*1))])
      (fun j=>j≤n+1) (fun j=>n+1-j) 0 (Nat.zero_le _) (St.le_of rfl ⟨⟨_,rfl,Blk.le_refl _⟩,⟨_,rfl,Blk.le_refl _⟩,⟨_,rfl,Blk.le_refl _⟩,⟨_,rfl,Blk.le_refl _⟩,⟨_,rfl,Blk.le_refl _⟩,⟨_,rfl,rfl,rfl,Nat.le_refl _,(fun j hj=>rfl),Nat.le_refl _⟩,trivial⟩ ⟨rfl,rfl,rfl,rfl,rfl,rfl,rfl,rfl,rfl,rfl,trivial⟩) ?_)
    rintro j hj
    refine G.seqR tfine rfl trivial ?_
    refine G.seq ?_
    refine G.cond (b:=decide ((j:Int)<((n+1:Nat):Int))) rfl (fun h6=>?_) (fun h6=>?_)
    · have h6:=of_decide_eq_true h6
      have hjn:j<n+1:=by omega
      refine G.skip ?_
      refine G.seq ?_
      refine G.block ?_
      refine G.seqR tfine rfl trivial ?_
      refine G.reg tfine rfl ⟨by omega,by omega,by omega,by omega,by omega,by omega,trivial⟩ ?_
      refine G.reg tfine rfl trivial ?_
      rw[IntWalk.i64_in ((j:Int)+1) (by omega)]
      refine⟨j+1,by omega,(by show n+1-(j+1)<n+1-j;omega),?_⟩
      exact St.le_of rfl ⟨⟨_,rfl,Blk.le_refl _⟩,⟨_,rfl,Blk.le_refl _⟩,⟨_,rfl,Blk.le_refl _⟩,⟨_,rfl,Blk.le_refl _⟩,⟨_,rfl,Blk.le_refl _⟩,⟨_,rfl,rfl,rfl,Nat.le_refl _,(fun q hq=>mixN_step row j q (by omega)),Nat.le_refl _⟩,trivial⟩ ⟨rfl,rfl,rfl,rfl,rfl,rfl,rfl,rfl,rfl,by simp[up,I],trivial⟩
    have h6:=of_decide_eq_false h6
    have e:j=n+1:=by omega
    subst e
    refine G.exit ?_
    refine G.freezeArr 36 9 rfl rfl (Nat.le_refl _) fun g hg=>?_
    have hg:w.heap.size≤g:=hg.elim id (fun h=>by cases h)
    refine G.region_lit ?_
    refine GO.firstN tfine 6 rfl trivial ?_
    refine GO.openSay (el:=elI p.lim) (sz:=1) 990 703 56 rfl (fun w' ha=>hl.asOf ha) (fun k hk=>sb_lt hl k hk) rfl rfl rfl ?_
    refine GO.more tfine rfl ⟨by omega,by omega,by omega,trivial⟩ ?_
    rw[Int.toNat_natCast]
    have hci:cAt L (i+(n+1))=negRow p f i:=hLhi i hlt
    have hvi:∀w,RdRow w (some ⟨g,0,none⟩) (n+1) 1 (mixE row (negW row) (n+1))→IntsAt w (.slice (some ⟨g,0,none⟩) (n+1) cc) (cAt L (i+(n+1))).1:=fun w h=>by
      have e:(cAt L (i+(n+1))).1=negW row:=by rw[hci,hrow];rfl
      have e2:(negW row).length=n+1:=by rw[negW_len,hrl]
      rw[e]
      exact⟨_,cc,by rw[e2],by rw[e2];exact h.congr fun q hq=>(mixE_all row (negW row) (n+1) q hq).symm,fun _=>by rw[e2];exact hcc⟩
    refine GO.appendAccB (n:=i+(n+1)) (c:=cp) (el:=fun j=>[us j,I (cAt L j).2]) [.slice (some ⟨g,0,none⟩) (n+1) cc,I (negRow p f i).2] [(1,.v (.c (.k (I f)))),(2,.v (.c (.ptr 2 0 0 0))),(28,.v (.c (.inp 702 Ar p.rows.length cr))),(29,.v (.c (.k (I p.rows.length)))),(30,.v (.c (.k (I i))))]
        [(990,.say (· < w.heap.size) (asOf w)),(2,.var 25 [.k (.slice Ao (n+1) co),.k (.slice Ar p.rows.length cr),.k (.slice Al p.lim.length cl)]),(702,.ro 1 p.rows.length (fun i=>[vs0 i])),(839,.say SR (fun w=>∀j,j<i+(n+1)→IntsAt w (us j) (cAt L j).1)),(36,.say (·=g) (fun w=>RdRow w (some ⟨g,0,none⟩) (n+1) 1 (mixE row (negW row) (n+1))))] apCo rfl rfl rfl rfl rfl rfl rfl rfl rfl rfl (fun u hu=>by simp at hu;rcases hu with rfl|rfl<;>rfl)
      (St.le_of rfl ⟨⟨_,rfl,Blk.le_refl _⟩,⟨_,rfl,Blk.le_refl _⟩,⟨_,rfl,Blk.le_refl _⟩,⟨_,rfl,Blk.le_refl _⟩,⟨_,rfl,Blk.le_refl _⟩,trivial⟩ ⟨rfl,rfl,rfl,rfl,rfl,trivial⟩) (subM.fr ⟨rfl,nx rfl,rfl,nx rfl,rfl,nx rfl,rfl,nx rfl,rfl,nx rfl,trivial⟩) (fun k hk=>rfl) (by unfold maxLen;omega) (by omega) fun c' hc'=>?_
    refine GO.fin tfine rfl trivial ?_
    refine G.bothS 839 839 36 (fun k=>SR k∨k=g) (fun w=>∀j,j<i+(n+1)+1→IntsAt w ((fun j=>if j=i+(n+1) then .slice (some ⟨g,0,none⟩) (n+1) cc else us j) j) (cAt L j).1) rfl rfl (fun k hk=>hk) (fun s1 s2=>steady_snoc s1 (fun k hk=>.inl hk) (fun k ⟨_,a,e,hk⟩=>by cases e;exact .inr hk.symm)) (fun w ha hb=>snoc_ints ha (hvi w hb)) (fun b hb=>⟨_,_,(Option.some.inj hb).symm⟩) ?_
    refine G.reg tfine rfl trivial ?_
    rw[IntWalk.i64_in ((i:Int)+1) (by omega)]
    refine⟨(i+1,c',(fun j=>if j=i+(n+1) then .slice (some ⟨g,0,none⟩) (n+1) cc else us j),fun k=>SR k∨k=g),⟨by simp only;omega,by simp only;omega,fun k hk=>hk.elim (hSR k) (fun e=>by rw[e];exact hg),by simp only[show i+1+(n+1)=i+(n+1)+1 by omega];exact snoc_sb hU⟩,(by show p.rows.length-(i+1)<p.rows.length-i;omega),?_⟩
    simp only[show i+1+(n+1)=i+(n+1)+1 by omega]
    exact St.le_of rfl ⟨⟨_,rfl,Blk.le_refl _⟩,⟨_,rfl,Blk.le_refl _⟩,⟨_,rfl,Blk.le_refl _⟩,⟨_,rfl,rfl,rfl,Nat.le_refl _,snoc_el (by rw[hci]),Nat.le_refl _⟩,⟨_,rfl,Blk.le_refl _⟩,trivial⟩ ⟨rfl,rfl,rfl,rfl,rfl,by simp[up,I],trivial⟩
  have h5:=of_decide_eq_false h5
  have:i=p.rows.length:=by omega
  subst this
  refine G.exit ?_
  rw[←hLl]at hcp hU ⊢
  refine G.freezeArr 63 5 rfl rfl (Nat.le_refl _) fun g hg=>?_
  have hg:w.heap.size≤g:=hg.elim id (fun h=>by cases h)
  refine G.seqR tfine rfl trivial ?_
  exact G.ret (ret_cons (X:=63) (Y:=839) rfl hg hcp hSR hU rfl rfl)
end Go.Proofs.Ytafhnfcahhlanaa
namespace Go.Proofs.Ytafhnfcahhlanaa
open Go.Sx Go.RowKit
def colL (p:Prob) (k:Nat):List Int:=p.rows.map fun r=>r.getD k 0
def colM (p:Prob) (f:Int) (k:Nat):Cond:=(colL p k,W (f*p.obj.getD k 0))
def dualM (p:Prob) (f:Int):List Cond:=(List.range p.rows.length).map (fun i=>(unitL p.rows.length i,0))++(List.range p.obj.length).map (colM p f)
theorem dualM_len (p:Prob) (f:Int):(dualM p f).length=p.rows.length+p.obj.length:=by simp[dualM]
theorem dualM_lo (p:Prob) (f:Int) (i:Nat) (h:i<p.rows.length):cAt (dualM p f) i=(unitL p.rows.length i,0):=by
  simp[cAt,dualM,List.getD_eq_getElem?_getD,List.getElem?_append_left (show i<((List.range p.rows.length).map fun i=>(unitL p.rows.length i,(0:Int))).length by simpa using h),List.getElem?_map,List.getElem?_range h]
theorem dualM_hi (p:Prob) (f:Int) (i:Nat) (h:i<p.obj.length):cAt (dualM p f) (i+p.rows.length)=colM p f i:=by
  rw[cAt,dualM,List.getD_eq_getElem?_getD,List.getElem?_append_right (by simp)]
  simp[List.getElem?_map,List.getElem?_range h]
theorem colL_len (p:Prob) (k:Nat):(colL p k).length=p.rows.length:=by simp[colL]
theorem colL_get (p:Prob) (k i:Nat) (h:i<p.rows.length):(colL p k).getD i 0=(p.rows.getD i []).getD k 0:=by
  simp[colL,List.getD_eq_getElem?_getD,List.getElem?_map,List.getElem?_eq_getElem h]
theorem mixC_step (c:List Int) (x:Int) (j q:Nat) (hj:c.getD j 0=x):mixE [] c (j+1) q=bif Nat.beq q (0+(j:Int).toNat) then [I x] else mixE [] c j q:=by
  rw[Int.toNat_natCast,Nat.zero_add]
  by_cases e:q=j
  · subst e
    rw[Nat.beq_refl,cond_true,mixE,if_pos (Nat.lt_succ_self q),hj]
  · rw[nbeq e,cond_false]
    unfold mixE
    by_cases h:q<j
    · rw[if_pos h,if_pos (by omega)]
    · rw[if_neg h,if_neg (by omega)]
theorem dualS_any (p:Prob) (pv:Value) (vs0:Nat→Value) (f:Int) (m:Nat) (w:World) (hp:ProbAt w pv p vs0) (hn:p.rows.length=m+1) (h1:m+1≤1000) (h2:p.obj.length≤1000) (h4:∀r∈p.rows,r.length=p.obj.length):
    Calls Try.prog 37 #[pv,I f] w fun e w'=>ConsA (dualM p f) w w' e:=by
  obtain⟨ov,rv,lv,rfl,⟨Ao,co,rfl,ho,_⟩,⟨Ar,cr,rfl,hr,_,hri⟩,⟨Al,cl,rfl,hl,_⟩⟩:=hp
  rw[hn]at hr hri ⊢
  obtain⟨L,hL⟩:∃L,L=dualM p f:=⟨_,rfl⟩
  rw[←hL]
  have hLl:L.length=p.obj.length+(m+1):=by rw[hL,dualM_len,hn];omega
  have hLlo:∀i,i<m+1→cAt L i=(unitL (m+1) i,0):=fun i hi=>by rw[hL,dualM_lo p f i (by omega),hn]
  have hLhi:∀i,i<p.obj.length→cAt L (i+(m+1))=colM p f i:=fun i hi=>by rw[hL,←hn];exact dualM_hi p f i hi
  refine enterSay [] [.agg [.k (.slice Ao p.obj.length co),.k (.slice Ar (m+1) cr),.k (.slice Al p.lim.length cl)],.c (.k (I f))] [(990,.say (· < w.heap.size) (asOf w))] Try.func37 rfl 66 Try.ntmps37 rfl rfl ⟨⟨trivial,trivial,trivial,trivial⟩,trivial,trivial⟩ ⟨⟨asOf.refl w,fun k hk=>hk,steady_asOf w⟩,trivial,trivial⟩ ?_
  refine G.seqR tfine rfl trivial ?_
  refine G.seqR tfine rfl trivial ?_
  refine G.seq ?_
  refine G.seqR tfine rfl trivial ?_
  refine G.newNil 26 2 (fun j=>[undef,I (cAt L j).2]) rfl ?_
  refine G.tellF 839 (fun w=>∀j,j<0→IntsAt w undef (cAt L j).1) (fun w j hj=>by omega) rfl ?_
  refine G.block (G.loop (fun z:Nat×Nat×(Nat→Value)×(Nat→Prop)=>St.of [(1,.v (.c (.k (I f)))),(2,.v (.c (.ptr 2 0 0 0))),(5,.v (.c (accV 26 2 z.1 z.2.1))),(14,.v (.c (.k (I ((m+1:Nat):Int))))),(15,.v (.c (.k (I z.1))))]
      [(990,.say (· < w.heap.size) (asOf w)),(2,.var 25 [.k (.slice Ao p.obj.length co),.k (.slice Ar (m+1) cr),.k (.slice Al p.lim.length cl)]),(26,accB 95 2 z.1 z.2.1 (fun j=>[z.2.2.1 j,I (cAt L j).2])),(839,.say z.2.2.2 (fun w=>∀j,j<z.1→IntsAt w (z.2.2.1 j) (cAt L j).1))])
    (fun z=>z.1≤m+1∧z.1≤z.2.1∧(∀k,z.2.2.2 k→w.heap.size≤k)∧∀j,j<z.1→∀k,sb (z.2.2.1 j) k→z.2.2.2 k) (fun z=>m+1-z.1) (0,0,(fun _=>undef),fun _=>False) ⟨Nat.zero_le _,Nat.le_refl _,fun k hk=>hk.elim,fun j hj=>absurd hj (Nat.not_lt_zero j)⟩ (St.le_of rfl ⟨⟨_,rfl,Blk.le_refl _⟩,⟨_,rfl,Blk.le_refl _⟩,⟨_,rfl,Blk.le_refl _⟩,⟨_,rfl,Blk.le_refl _⟩,trivial⟩ ⟨rfl,rfl,rfl,rfl,rfl,trivial⟩) ?_)
  rintro⟨i,cp,us,SR⟩ ⟨hi,hcp,hSR,hU⟩
  simp only at hi hcp hSR hU
  refine G.seqR tfine rfl trivial ?_
  refine G.seq ?_
  refine G.cond (b:=decide ((i:Int)<((m+1:Nat):Int))) rfl (fun h5=>?_) (fun h5=>?_)
  · have h5:=of_decide_eq_true h5
    have hlt:i<m+1:=by omega
    refine G.skip ?_
    refine G.seq ?_
    refine G.block ?_
    refine G.seqR tfine rfl trivial ?_
    refine G.region_lit ?_
    refine GO.moveAny tfine rfl (.inl rfl) rfl rfl rfl ?_
    refine GO.more tfine rfl trivial ?_
    refine GO.callCap 23 3 (m+1) 1 (elI (unitL (m+1) i)) rfl rfl rfl rfl rfl rfl (fun args w=>Try.call79 args w) (fun ρ w hs hok=>unit_any (m+1) i w hlt (by omega)) fun cu hcu=>?_
    refine GO.freezeArr 23 23 rfl rfl (Nat.le_refl _) fun g hg=>?_
    have hg:w.heap.size≤g:=hg.elim id (fun h=>by cases h)
    refine GO.more tfine rfl trivial ?_
    refine GO.appendAccB (n:=i) (c:=cp) (el:=fun j=>[us j,I (cAt L j).2]) [.slice (some ⟨g,0,none⟩) (m+1) cu,I 0] [(1,.v (.c (.k (I f)))),(2,.v (.c (.ptr 2 0 0 0))),(14,.v (.c (.k (I ((m+1:Nat):Int))))),(15,.v (.c (.k (I i))))]
        [(990,.say (· < w.heap.size) (asOf w)),(2,.var 25 [.k (.slice Ao p.obj.length co),.k (.slice Ar (m+1) cr),.k (.slice Al p.lim.length cl)]),(839,.say SR (fun w=>∀j,j<i→IntsAt w (us j) (cAt L j).1)),(23,.say (·=g) (fun w=>RdRow w (some ⟨g,0,none⟩) (m+1) 1 (elI (unitL (m+1) i))))] apCo rfl rfl rfl rfl rfl rfl rfl rfl rfl rfl (fun u hu=>by simp at hu;rcases hu with rfl|rfl<;>rfl)
      (St.le_of rfl ⟨⟨_,rfl,Blk.le_refl _⟩,⟨_,rfl,Blk.le_refl _⟩,⟨_,rfl,Blk.le_refl _⟩,⟨_,rfl,Blk.le_refl _⟩,trivial⟩ ⟨rfl,rfl,rfl,rfl,trivial⟩) (subM.fr ⟨rfl,nx rfl,rfl,nx rfl,rfl,nx rfl,rfl,nx rfl,trivial⟩) (fun k hk=>rfl) (by unfold maxLen;omega) (by omega) fun c' hc'=>?_
    refine GO.fin tfine rfl trivial ?_
    have hvi:∀w,RdRow w (some ⟨g,0,none⟩) (m+1) 1 (elI (unitL (m+1) i))→IntsAt w (.slice (some ⟨g,0,none⟩) (m+1) cu) (cAt L i).1:=fun w h=>by
      rw[hLlo i hlt]
      exact⟨_,cu,by rw[unitL_len],by rw[unitL_len];exact h,fun _=>by rw[unitL_len];exact hcu⟩
    refine G.bothS 839 839 23 (fun k=>SR k∨k=g) (fun w=>∀j,j<i+1→IntsAt w ((fun j=>if j=i then .slice (some ⟨g,0,none⟩) (m+1) cu else us j) j) (cAt L j).1) rfl rfl (fun k hk=>hk) (fun s1 s2=>steady_snoc s1 (fun k hk=>.inl hk) (fun k ⟨_,a,e,hk⟩=>by cases e;exact .inr hk.symm)) (fun w ha hb=>snoc_ints ha (hvi w hb)) (fun b hb=>⟨_,_,(Option.some.inj hb).symm⟩) ?_
    refine G.reg tfine rfl trivial ?_
    rw[IntWalk.i64_in ((i:Int)+1) (by omega)]
    refine⟨(i+1,c',(fun j=>if j=i then .slice (some ⟨g,0,none⟩) (m+1) cu else us j),fun k=>SR k∨k=g),⟨by simp only;omega,hc',fun k hk=>hk.elim (hSR k) (fun e=>by rw[e];exact hg),snoc_sb hU⟩,(by show m+1-(i+1)<m+1-i;omega),?_⟩
    exact St.le_of rfl ⟨⟨_,rfl,Blk.le_refl _⟩,⟨_,rfl,Blk.le_refl _⟩,⟨_,rfl,rfl,rfl,Nat.le_refl _,snoc_el (by rw[hLlo i hlt]),Nat.le_refl _⟩,⟨_,rfl,Blk.le_refl _⟩,trivial⟩ ⟨rfl,rfl,rfl,rfl,by simp[up,I],trivial⟩
  have h5:=of_decide_eq_false h5
  have:i=m+1:=by omega
  subst this
  refine G.exit ?_
  clear h5 hi
  refine G.weaken (st':=St.of [(1,.v (.c (.k (I f)))),(2,.v (.c (.ptr 2 0 0 0))),(5,.v (.c (.slc 26 0 2 (m+1) cp)))]
      [(990,.say (· < w.heap.size) (asOf w)),(2,.var 25 [.k (.slice Ao p.obj.length co),.k (.slice Ar (m+1) cr),.k (.slice Al p.lim.length cl)]),(26,.arr 95 2 (m+1) (fun j=>[us j,I (cAt L j).2]) ((cp-(m+1))*2)),(839,.say SR (fun w=>∀j,j<m+1→IntsAt w (us j) (cAt L j).1))])
    (St.le_of rfl ⟨⟨_,rfl,Blk.le_refl _⟩,⟨_,rfl,Blk.le_refl _⟩,⟨_,rfl,Blk.le_refl _⟩,⟨_,rfl,Blk.le_refl _⟩,trivial⟩ ⟨rfl,rfl,rfl,trivial⟩) ?_
  refine G.rn 26 63 rfl trivial rfl rfl rfl ?_
  refine G.seq ?_
  refine G.seqR tfine rfl trivial ?_
  refine G.openSay (el:=elI p.obj) (sz:=1) 990 702 29 rfl (fun w' ha=>ho.asOf ha) (fun k hk=>sb_lt ho k hk) rfl rfl rfl ?_
  refine G.block (G.loop (fun z:Nat×Nat×(Nat→Value)×(Nat→Prop)=>St.of [(1,.v (.c (.k (I f)))),(2,.v (.c (.ptr 2 0 0 0))),(5,.v (.c (.slc 63 0 2 (z.1+(m+1)) z.2.1))),(29,.v (.c (.inp 702 Ao p.obj.length co))),(30,.v (.c (.k (I p.obj.length)))),(31,.v (.c (.k (I z.1))))]
      [(990,.say (· < w.heap.size) (asOf w)),(2,.var 25 [.k (.slice Ao p.obj.length co),.k (.slice Ar (m+1) cr),.k (.slice Al p.lim.length cl)]),(702,.ro 1 p.obj.length (elI p.obj)),(63,.arr 95 2 (z.1+(m+1)) (fun j=>[z.2.2.1 j,I (cAt L j).2]) ((z.2.1-(z.1+(m+1)))*2)),(839,.say z.2.2.2 (fun w=>∀j,j<z.1+(m+1)→IntsAt w (z.2.2.1 j) (cAt L j).1))])
    (fun z=>z.1≤p.obj.length∧z.1+(m+1)≤z.2.1∧(∀k,z.2.2.2 k→w.heap.size≤k)∧∀j,j<z.1+(m+1)→∀k,sb (z.2.2.1 j) k→z.2.2.2 k) (fun z=>p.obj.length-z.1) (0,cp,us,SR) ⟨Nat.zero_le _,by simp only;omega,hSR,by simp only[Nat.zero_add];exact hU⟩ ?_ ?_)
  · rw[show (0:Nat)+(m+1)=m+1 from Nat.zero_add _]
    exact St.le_of rfl ⟨⟨_,rfl,Blk.le_refl _⟩,⟨_,rfl,Blk.le_refl _⟩,⟨_,rfl,Blk.le_refl _⟩,⟨_,rfl,Blk.le_refl _⟩,⟨_,rfl,Blk.le_refl _⟩,trivial⟩ ⟨rfl,rfl,rfl,rfl,rfl,rfl,trivial⟩
  clear hSR hcp hU
  rintro⟨i,cp,us,SR⟩ ⟨hi,hcp,hSR,hU⟩
  simp only at hi hcp hSR hU
  refine G.seqR tfine rfl trivial ?_
  refine G.seq ?_
  refine G.cond (b:=decide ((i:Int)<(p.obj.length:Int))) rfl (fun h5=>?_) (fun h5=>?_)
  · have h5:=of_decide_eq_true h5
    have hlt:i<p.obj.length:=by omega
    refine G.skip ?_
    refine G.seq ?_
    refine G.block ?_
    refine G.seqR tfine rfl ⟨by omega,by omega,by omega,trivial⟩ ?_
    rw[Int.toNat_natCast]
    refine G.seqC tfine rfl trivial ?_
    refine GO.make1 (m+1) apT35 rfl rfl rfl rfl rfl rfl rfl rfl rfl (by unfold maxLen;omega) (by omega) (fun h0=>by omega) (fun _ cc hcc=>?_)
    refine GO.fin tfine rfl trivial ?_
    refine G.seq ?_
    refine G.seqR tfine rfl trivial ?_
    refine G.openSay (el:=fun i=>[vs0 i]) (sz:=1) 990 703 41 rfl (fun w' ha=>hr.asOf ha) (fun k hk=>sb_lt hr k hk) rfl rfl rfl ?_
    refine G.block (G.loop (fun j:Nat=>St.of [(1,.v (.c (.k (I f)))),(2,.v (.c (.ptr 2 0 0 0))),(5,.v (.c (.slc 63 0 2 (i+(m+1)) cp))),(7,.v (.c (.k (I i)))),(8,.v (.c (.k (I (p.obj.getD i 0))))),(9,.v (.c (.slc 39 0 1 (m+1) cc))),(29,.v (.c (.inp 702 Ao p.obj.length co))),(30,.v (.c (.k (I p.obj.length)))),(31,.v (.c (.k (I i)))),(41,.v (.c (.inp 703 Ar (m+1) cr))),(42,.v (.c (.k (I ((m+1:Nat):Int))))),(43,.v (.c (.k (I j))))]
        [(990,.say (· < w.heap.size) (asOf w)),(2,.var 25 [.k (.slice Ao p.obj.length co),.k (.slice Ar (m+1) cr),.k (.slice Al p.lim.length cl)]),(702,.ro 1 p.obj.length (elI p.obj)),(703,.ro 1 (m+1) (fun i=>[vs0 i])),(63,.arr 95 2 (i+(m+1)) (fun j=>[us j,I (cAt L j).2]) ((cp-(i+(m+1)))*2)),(839,.say SR (fun w=>∀j,j<i+(m+1)→IntsAt w (us j) (cAt L j).1)),(39,.arr 3 1 (m+1) (mixE [] (colL p i) j) ((cc-(m+1))*1))])
      (fun j=>j≤m+1) (fun j=>m+1-j) 0 (Nat.zero_le _) (St.le_of rfl ⟨⟨_,rfl,Blk.le_refl _⟩,⟨_,rfl,Blk.le_refl _⟩,⟨_,rfl,Blk.le_refl _⟩,⟨_,rfl,Blk.le_refl _⟩,⟨_,rfl,Blk.le_refl _⟩,⟨_,rfl,Blk.le_refl _⟩,⟨_,rfl,rfl,rfl,Nat.le_refl _,(fun j hj=>by simp[mixE]),Nat.le_refl _⟩,trivial⟩ ⟨rfl,rfl,rfl,rfl,rfl,rfl,rfl,rfl,rfl,rfl,rfl,rfl,trivial⟩) ?_)
    rintro j hj
    refine G.seqR tfine rfl trivial ?_
    refine G.seq ?_
    refine G.cond (b:=decide ((j:Int)<((m+1:Nat):Int))) rfl (fun h6=>?_) (fun h6=>?_)
    · have h6:=of_decide_eq_true h6
      have hjn:j<m+1:=by omega
      refine G.skip ?_
      refine G.seq ?_
      refine G.block ?_
      refine G.seqR tfine rfl ⟨by omega,by omega,by omega,trivial⟩ ?_
      rw[Int.toNat_natCast]
      obtain⟨row,hrow⟩:∃row,row=p.rows.getD j []:=⟨_,rfl⟩
      have hrl:row.length=p.obj.length:=by rw[hrow];exact h4 _ (by rw[List.getD_eq_getElem?_getD,List.getElem?_eq_getElem (by omega)];exact List.getElem_mem (by omega))
      obtain⟨Aq,cq,hvq,hAq,_⟩:=hri j hjn
      rw[←hrow,hrl]at hvq hAq
      rw[hvq]
      refine G.region_lit ?_
      refine GO.firstN tfine 4 rfl trivial ?_
      refine GO.openSay (el:=elI row) (sz:=1) 990 704 50 rfl (fun w' ha=>hAq.asOf ha) (fun k hk=>sb_lt hAq k hk) rfl rfl rfl ?_
      refine GO.fin tfine rfl ⟨by omega,by omega,by omega,by omega,by omega,by omega,trivial⟩ ?_
      rw[Int.toNat_natCast]
      refine G.reg tfine rfl trivial ?_
      rw[IntWalk.i64_in ((j:Int)+1) (by omega)]
      refine⟨j+1,by omega,(by show m+1-(j+1)<m+1-j;omega),?_⟩
      exact St.le_of rfl ⟨⟨_,rfl,Blk.le_refl _⟩,⟨_,rfl,Blk.le_refl _⟩,⟨_,rfl,Blk.le_refl _⟩,⟨_,rfl,Blk.le_refl _⟩,⟨_,rfl,Blk.le_refl _⟩,⟨_,rfl,Blk.le_refl _⟩,⟨_,rfl,rfl,rfl,Nat.le_refl _,(fun q hq=>mixC_step (colL p i) (row.getD i 0) j q (by rw[colL_get p i j (by omega),hrow])),Nat.le_refl _⟩,trivial⟩ ⟨rfl,rfl,rfl,rfl,rfl,rfl,rfl,rfl,rfl,rfl,rfl,by simp[up,I],trivial⟩
    have h6:=of_decide_eq_false h6
    have e:j=m+1:=by omega
    subst e
    refine G.exit ?_
    refine G.freezeArr 39 9 rfl rfl (Nat.le_refl _) fun g hg=>?_
    have hg:w.heap.size≤g:=hg.elim id (fun h=>by cases h)
    refine G.region_lit ?_
    refine GO.more tfine rfl trivial ?_
    have hci:cAt L (i+(m+1))=colM p f i:=hLhi i hlt
    have hvi:∀w,RdRow w (some ⟨g,0,none⟩) (m+1) 1 (mixE [] (colL p i) (m+1))→IntsAt w (.slice (some ⟨g,0,none⟩) (m+1) cc) (cAt L (i+(m+1))).1:=fun w h=>by
      have e:(cAt L (i+(m+1))).1=colL p i:=by rw[hci];rfl
      have e2:(colL p i).length=m+1:=by rw[colL_len,hn]
      rw[e]
      exact⟨_,cc,by rw[e2],by rw[e2];exact h.congr fun q hq=>(mixE_all [] (colL p i) (m+1) q hq).symm,fun _=>by rw[e2];exact hcc⟩
    refine GO.appendAccB (n:=i+(m+1)) (c:=cp) (el:=fun j=>[us j,I (cAt L j).2]) [.slice (some ⟨g,0,none⟩) (m+1) cc,I (colM p f i).2] [(1,.v (.c (.k (I f)))),(2,.v (.c (.ptr 2 0 0 0))),(29,.v (.c (.inp 702 Ao p.obj.length co))),(30,.v (.c (.k (I p.obj.length)))),(31,.v (.c (.k (I i))))]
        [(990,.say (· < w.heap.size) (asOf w)),(2,.var 25 [.k (.slice Ao p.obj.length co),.k (.slice Ar (m+1) cr),.k (.slice Al p.lim.length cl)]),(702,.ro 1 p.obj.length (elI p.obj)),(839,.say SR (fun w=>∀j,j<i+(m+1)→IntsAt w (us j) (cAt L j).1)),(39,.say (·=g) (fun w=>RdRow w (some ⟨g,0,none⟩) (m+1) 1 (mixE [] (colL p i) (m+1))))] apCo rfl rfl rfl rfl rfl rfl rfl rfl rfl rfl (fun u hu=>by simp at hu;rcases hu with rfl|rfl<;>rfl)
      (St.le_of rfl ⟨⟨_,rfl,Blk.le_refl _⟩,⟨_,rfl,Blk.le_refl _⟩,⟨_,rfl,Blk.le_refl _⟩,⟨_,rfl,Blk.le_refl _⟩,⟨_,rfl,Blk.le_refl _⟩,trivial⟩ ⟨rfl,rfl,rfl,rfl,rfl,trivial⟩) (subM.fr ⟨rfl,nx rfl,rfl,nx rfl,rfl,nx rfl,rfl,nx rfl,rfl,nx rfl,trivial⟩) (fun k hk=>rfl) (by unfold maxLen;omega) (by omega) fun c' hc'=>?_
    refine GO.fin tfine rfl trivial ?_
    refine G.bothS 839 839 39 (fun k=>SR k∨k=g) (fun w=>∀j,j<i+(m+1)+1→IntsAt w ((fun j=>if j=i+(m+1) then .slice (some ⟨g,0,none⟩) (m+1) cc else us j) j) (cAt L j).1) rfl rfl (fun k hk=>hk) (fun s1 s2=>steady_snoc s1 (fun k hk=>.inl hk) (fun k ⟨_,a,e,hk⟩=>by cases e;exact .inr hk.symm)) (fun w ha hb=>snoc_ints ha (hvi w hb)) (fun b hb=>⟨_,_,(Option.some.inj hb).symm⟩) ?_
    refine G.reg tfine rfl trivial ?_
    rw[IntWalk.i64_in ((i:Int)+1) (by omega)]
    refine⟨(i+1,c',(fun j=>if j=i+(m+1) then .slice (some ⟨g,0,none⟩) (m+1) cc else us j),fun k=>SR k∨k=g),⟨by simp only;omega,by simp only;omega,fun k hk=>hk.elim (hSR k) (fun e=>by rw[e];exact hg),by simp only[show i+1+(m+1)=i+(m+1)+1 by omega];exact snoc_sb hU⟩,(by show p.obj.length-(i+1)<p.obj.length-i;omega),?_⟩
    simp only[show i+1+(m+1)=i+(m+1)+1 by omega]
    exact St.le_of rfl ⟨⟨_,rfl,Blk.le_refl _⟩,⟨_,rfl,Blk.le_refl _⟩,⟨_,rfl,Blk.le_refl _⟩,⟨_,rfl,rfl,rfl,Nat.le_refl _,snoc_el (by rw[hci]),Nat.le_refl _⟩,⟨_,rfl,Blk.le_refl _⟩,trivial⟩ ⟨rfl,rfl,rfl,rfl,rfl,by simp[up,I],trivial⟩
  have h5:=of_decide_eq_false h5
  have:i=p.obj.length:=by omega
  subst this
  refine G.exit ?_
  rw[←hLl]at hcp hU ⊢
  refine G.freezeArr 63 5 rfl rfl (Nat.le_refl _) fun g hg=>?_
  have hg:w.heap.size≤g:=hg.elim id (fun h=>by cases h)
  refine G.seqR tfine rfl trivial ?_
  exact G.ret (ret_cons (X:=63) (Y:=839) rfl hg hcp hSR hU rfl rfl)
end Go.Proofs.Ytafhnfcahhlanaa
namespace Go.Proofs.Ytafhnfcahhlanaa
open Go.Sx Go.RowKit
theorem dual0_any (p:Prob) (pv:Value) (vs0:Nat→Value) (f:Int) (n:Nat) (w:World) (hp:ProbAt w pv p vs0) (hn:p.obj.length=n+1) (hm:p.rows=[]) (h2:p.obj.length≤1000):
    Calls Try.prog 37 #[pv,I f] w fun e w'=>ConsA (dualM p f) w w' e:=by
  obtain⟨ov,rv,lv,rfl,⟨Ao,co,rfl,ho,_⟩,⟨Ar,cr,rfl,hr,_,hri⟩,⟨Al,cl,rfl,hl,_⟩⟩:=hp
  have hm0:p.rows.length=0:=by rw[hm];rfl
  rw[hm0]at hr hri ⊢
  rw[hn]at ho h2 ⊢
  obtain⟨L,hL⟩:∃L,L=dualM p f:=⟨_,rfl⟩
  rw[←hL]
  have hLl:L.length=n+1:=by rw[hL,dualM_len,hn,hm0];omega
  have hLhi:∀i,i<n+1→cAt L i=([],W (f*p.obj.getD i 0)):=fun i hi=>by
    have:=dualM_hi p f i (by omega)
    rw[hm0,Nat.add_zero]at this
    rw[hL,this,colM,colL,hm];rfl
  refine enterSay [] [.agg [.k (.slice Ao (n+1) co),.k (.slice Ar 0 cr),.k (.slice Al p.lim.length cl)],.c (.k (I f))] [(990,.say (· < w.heap.size) (asOf w))] Try.func37 rfl 66 Try.ntmps37 rfl rfl ⟨⟨trivial,trivial,trivial,trivial⟩,trivial,trivial⟩ ⟨⟨asOf.refl w,fun k hk=>hk,steady_asOf w⟩,trivial,trivial⟩ ?_
  refine G.seqR tfine rfl trivial ?_
  refine G.seqR tfine rfl trivial ?_
  refine G.seq ?_
  refine G.seqR tfine rfl trivial ?_
  refine G.block (G.rounds (GI.round ?_))
  refine G.seqR tfine rfl trivial ?_
  refine G.seq (G.cond_false rfl ?_)
  refine G.exit ?_
  refine G.newNil 63 2 (fun j=>[undef,I (cAt L j).2]) rfl ?_
  refine G.tellF 839 (fun w=>∀j,j<0→IntsAt w undef (cAt L j).1) (fun w j hj=>by omega) rfl ?_
  refine G.seq ?_
  refine G.seqR tfine rfl trivial ?_
  refine G.openSay (el:=elI p.obj) (sz:=1) 990 702 29 rfl (fun w' ha=>ho.asOf ha) (fun k hk=>sb_lt ho k hk) rfl rfl rfl ?_
  refine G.block (G.loop (fun z:Nat×Nat×(Nat→Value)=>St.of [(1,.v (.c (.k (I f)))),(2,.v (.c (.ptr 2 0 0 0))),(5,.v (.c (accV 63 2 z.1 z.2.1))),(29,.v (.c (.inp 702 Ao (n+1) co))),(30,.v (.c (.k (I ((n+1:Nat):Int))))),(31,.v (.c (.k (I z.1))))]
      [(990,.say (· < w.heap.size) (asOf w)),(2,.var 25 [.k (.slice Ao (n+1) co),.k (.slice Ar 0 cr),.k (.slice Al p.lim.length cl)]),(702,.ro 1 (n+1) (elI p.obj)),(63,accB 95 2 z.1 z.2.1 (fun j=>[z.2.2 j,I (cAt L j).2])),(839,.say (fun _=>False) (fun w=>∀j,j<z.1→IntsAt w (z.2.2 j) (cAt L j).1))])
    (fun z=>z.1≤n+1∧z.1≤z.2.1∧∀j,j<z.1→∃A:Option Addr,z.2.2 j=.slice A 0 0) (fun z=>n+1-z.1) (0,0,fun _=>undef) ⟨Nat.zero_le _,Nat.le_refl _,fun j hj=>absurd hj (Nat.not_lt_zero j)⟩ (St.le_of rfl ⟨⟨_,rfl,Blk.le_refl _⟩,⟨_,rfl,Blk.le_refl _⟩,⟨_,rfl,Blk.le_refl _⟩,⟨_,rfl,Blk.le_refl _⟩,⟨_,rfl,Blk.le_refl _⟩,trivial⟩ ⟨rfl,rfl,rfl,rfl,rfl,rfl,trivial⟩) ?_)
  rintro⟨i,cp,us⟩ ⟨hi,hcp,hU⟩
  simp only at hi hcp hU
  refine G.seqR tfine rfl trivial ?_
  refine G.seq ?_
  refine G.cond (b:=decide ((i:Int)<((n+1:Nat):Int))) rfl (fun h5=>?_) (fun h5=>?_)
  · have h5:=of_decide_eq_true h5
    have hlt:i<n+1:=by omega
    refine G.skip ?_
    refine G.seq ?_
    refine G.block ?_
    refine G.seqR tfine rfl ⟨by omega,by omega,by omega,trivial⟩ ?_
    rw[Int.toNat_natCast]
    refine G.seqC tfine rfl trivial ?_
    refine GO.make1 0 apT35 rfl rfl rfl rfl rfl rfl rfl rfl rfl (by unfold maxLen;omega) (by omega) (fun _ A hA=>?_) (fun h0=>absurd h0 (Nat.lt_irrefl 0))
    refine GO.fin tfine rfl trivial ?_
    refine G.seq ?_
    refine G.seqR tfine rfl trivial ?_
    refine G.block (G.rounds (GI.round ?_))
    refine G.seqR tfine rfl trivial ?_
    refine G.seq (G.cond_false rfl ?_)
    refine G.exit ?_
    refine G.region_lit ?_
    refine GO.moveAny tfine rfl (.inl rfl) rfl rfl rfl ?_
    refine GO.more tfine rfl trivial ?_
    have hci:=hLhi i hlt
    refine GO.appendAccB (n:=i) (c:=cp) (el:=fun j=>[us j,I (cAt L j).2]) [.slice A 0 0,I (W (f*p.obj.getD i 0))] [(1,.v (.c (.k (I f)))),(2,.v (.c (.ptr 2 0 0 0))),(29,.v (.c (.inp 702 Ao (n+1) co))),(30,.v (.c (.k (I ((n+1:Nat):Int))))),(31,.v (.c (.k (I i))))]
        [(990,.say (· < w.heap.size) (asOf w)),(2,.var 25 [.k (.slice Ao (n+1) co),.k (.slice Ar 0 cr),.k (.slice Al p.lim.length cl)]),(702,.ro 1 (n+1) (elI p.obj)),(839,.say (fun _=>False) (fun w=>∀j,j<i→IntsAt w (us j) (cAt L j).1))] apCo rfl rfl rfl rfl rfl rfl rfl rfl rfl rfl (fun u hu=>by simp at hu;rcases hu with rfl|rfl<;>rfl)
      (St.le_of rfl ⟨⟨_,rfl,Blk.le_refl _⟩,⟨_,rfl,Blk.le_refl _⟩,⟨_,rfl,Blk.le_refl _⟩,⟨_,rfl,Blk.le_refl _⟩,trivial⟩ ⟨rfl,rfl,rfl,rfl,rfl,trivial⟩) (subM.fr ⟨rfl,nx rfl,rfl,nx rfl,rfl,nx rfl,rfl,nx rfl,trivial⟩) (fun k hk=>rfl) (by unfold maxLen;omega) (by omega) fun c' hc'=>?_
    refine GO.fin tfine rfl trivial ?_
    have hU':∀j,j<i+1→∃A':Option Addr,(fun j=>if j=i then .slice A 0 0 else us j) j=.slice A' 0 0:=fun j hj=>by
      by_cases e:j=i
      · exact⟨A,by simp only[if_pos e]⟩
      · obtain⟨A',h'⟩:=hU j (by omega)
        exact⟨A',by simp only[if_neg e];exact h'⟩
    have hint:∀w:World,∀j,j<i+1→IntsAt w ((fun j=>if j=i then .slice A 0 0 else us j) j) (cAt L j).1:=fun w j hj=>by
      obtain⟨A',h'⟩:=hU' j hj
      rw[h',hLhi j (by omega)]
      exact⟨A',0,rfl,RdRow.nil _ _ _ _,fun h=>absurd h (Nat.lt_irrefl 0)⟩
    refine G.bothS 839 839 839 (fun _=>False) (fun w=>∀j,j<i+1→IntsAt w ((fun j=>if j=i then .slice A 0 0 else us j) j) (cAt L j).1) rfl rfl (fun k hk=>hk.elim) (fun _ _ w1 w2 _ _ _=>hint w2) (fun w _ _=>hint w) (fun b hb=>⟨_,_,(Option.some.inj hb).symm⟩) ?_
    refine G.reg tfine rfl trivial ?_
    rw[IntWalk.i64_in ((i:Int)+1) (by omega)]
    refine⟨(i+1,c',(fun j=>if j=i then .slice A 0 0 else us j)),⟨by simp only;omega,hc',hU'⟩,(by show n+1-(i+1)<n+1-i;omega),?_⟩
    exact St.le_of rfl ⟨⟨_,rfl,Blk.le_refl _⟩,⟨_,rfl,Blk.le_refl _⟩,⟨_,rfl,Blk.le_refl _⟩,⟨_,rfl,rfl,rfl,Nat.le_refl _,snoc_el (by rw[hci]),Nat.le_refl _⟩,⟨_,rfl,Blk.le_refl _⟩,trivial⟩ ⟨rfl,rfl,rfl,rfl,rfl,by simp[up,I],trivial⟩
  have h5:=of_decide_eq_false h5
  have:i=n+1:=by omega
  subst this
  refine G.exit ?_
  refine G.weaken (st':=St.of [(1,.v (.c (.k (I f)))),(2,.v (.c (.ptr 2 0 0 0))),(5,.v (.c (.slc 63 0 2 (n+1) cp)))]
      [(990,.say (· < w.heap.size) (asOf w)),(2,.var 25 [.k (.slice Ao (n+1) co),.k (.slice Ar 0 cr),.k (.slice Al p.lim.length cl)]),(63,.arr 95 2 (n+1) (fun j=>[us j,I (cAt L j).2]) ((cp-(n+1))*2)),(839,.say (fun _=>False) (fun w=>∀j,j<n+1→IntsAt w (us j) (cAt L j).1))])
    (St.le_of rfl ⟨⟨_,rfl,Blk.le_refl _⟩,⟨_,rfl,Blk.le_refl _⟩,⟨_,rfl,Blk.le_refl _⟩,⟨_,rfl,Blk.le_refl _⟩,trivial⟩ ⟨rfl,rfl,rfl,trivial⟩) ?_
  have hsb:∀j,j<L.length→∀k,sb (us j) k→False:=fun j hj k hk=>by
    obtain⟨A',h'⟩:=hU j (by omega)
    rw[h']at hk
    exact Nat.lt_irrefl 0 hk.1
  rw[←hLl]at hcp ⊢
  refine G.freezeArr 63 5 rfl rfl (Nat.le_refl _) fun g hg=>?_
  have hg:w.heap.size≤g:=hg.elim id (fun h=>by cases h)
  refine G.seqR tfine rfl trivial ?_
  exact G.ret (ret_cons (X:=63) (Y:=839) (SR:=fun _=>False) rfl hg hcp (fun k hk=>hk.elim) hsb rfl rfl)
end Go.Proofs.Ytafhnfcahhlanaa
namespace Go.Proofs.Ytafhnfcahhlanaa
open Go.Sx Go.RowKit
def conR (L:List Cond) (u:Cho) (w:World):Prop:=∃us,ConsAt w (slV L.length u) L us∧(∀k,sb (slV L.length u) k→u.2 k)∧∀j,j<L.length→∀k,sb (us j) k→u.2 k
theorem conR_steady {L:List Cond} {u:Cho}:Steady u.2 (conR L u):=by
  rintro w1 w2 h1 h2 ⟨us,hc,h6,h7⟩
  have:=consR_steady (L:=L) (i:=((adrK u,capN L.length u),us,u.2)) w1 w2 h1 h2 ⟨hc,h6,h7⟩
  exact⟨us,this.1,h6,h7⟩
theorem ConsA.cho {L:List Cond} {w w':World} {e:Ending} (h:ConsA L w w' e):∃u:Cho,e=.returned (slV L.length u)∧Below w.heap.size w w'∧conR L u w'∧(∀k,u.2 k→w.heap.size≤k∧k<w'.heap.size)∧Steady u.2 (conR L u):=by
  obtain⟨⟨g,us,S⟩,rfl,hb,⟨hc,h1,h2⟩,h3,_⟩:=h
  have hle:L.length≤g.2:=by
    obtain⟨A,c,e,_,h4,_⟩:=hc
    injection e with _ _ e3
    by_cases h0:0<L.length
    · have:=h4 h0;simp only at e3;omega
    · omega
  have e:slV L.length (Value.slice g.1 L.length g.2,S)=consV L.length g:=slV_eq hle
  refine⟨(.slice g.1 L.length g.2,S),by rw[e],hb,⟨us,by rw[e];exact hc,by rw[e];exact h1,h2⟩,h3,conR_steady⟩
def boxG (u:Cho):Nat×Nat:=match u.1 with
  |.slice (some a) n _=>(a.block,n)
  |_=>(0,0)
def closV (f:FuncId) (u:Cho):Value:=boxV f (boxG u)
def CornOk (L:List Cond) (n:Nat):Prop:=∀set∈chooseM L.length n,overM L n set≠0→keepsM L (cornN L n set) (absW (overM L n set))=true→gL (cornN L n set) (absW (overM L n set))≠0
theorem cornersC (L:List Cond) (u:Cho) (n:Nat) (w:World) (hc:conR L u w) (hlt:∀k,u.2 k→k<w.heap.size) (hL:L.length≤8) (hn:n≤8) (hrow:∀c∈L,c.1.length=n) (hg:CornOk L n):
    Calls Try.prog 33 #[slV L.length u,I n] w fun e w'=>∃u':Cho,e=.returned (closV 74 u')∧Below w.heap.size w w'∧Iter Try.prog (closV 74 u') u'.2 RelR (cornersM L n) w'∧(∀k,u'.2 k→(w.heap.size≤k∨u.2 k)∧k<w'.heap.size)∧Steady u'.2 (Iter Try.prog (closV 74 u') u'.2 RelR (cornersM L n)):=by
  refine (corners_any w.heap.size (slV L.length u) ⟨_,_,_,rfl⟩ n w (Nat.le_refl _)).mono ?_
  rintro e w' ⟨g,rfl,hb,⟨⟨g1,g2⟩,_⟩,hf,_⟩
  have hc':=conR_steady w w' (fun k hk=>hb.block k (hlt k hk)) hb.size hc
  obtain⟨us,hc1,hc2,hc3⟩:=hc'
  have hlt':∀k,u.2 k→k<w'.heap.size:=fun k hk=>Nat.lt_of_lt_of_le (hlt k hk) hb.size
  have hst:Steady u.2 (fun w=>ConsAt w (slV L.length u) L us):=by
    intro w1 w2 a1 a2 a3
    exact (consR_steady (L:=L) (i:=((adrK u,capN L.length u),us,u.2)) w1 w2 a1 a2 ⟨a3,hc2,hc3⟩).1
  refine⟨(.slice (some ⟨g.1,0,none⟩) g.2 0,fun k=>(k=g.1∨k=g.2)∨u.2 k),rfl,hb,?_,?_,Iter.steady⟩
  · exact corners_iter L (slV L.length u) us n g.1 g.2 w' u.2 hc1 hst hlt' hc2 g1 g2 hL hn hrow hg
  · rintro k (hk|hk)
    · exact⟨.inl (hf k hk).1,(hf k hk).2⟩
    · exact⟨.inr hk,hlt' k hk⟩
theorem raysC (L:List Cond) (u:Cho) (m:Nat) (w:World) (hc:conR L u w) (hlt:∀k,u.2 k→k<w.heap.size) (hL:L.length≤8) (hn:m+1≤8) (hrow:∀c∈L,c.1.length=m+1):
    Calls Try.prog 36 #[slV L.length u,I ((m+1:Nat):Int)] w fun e w'=>∃u':Cho,e=.returned (closV 81 u')∧Below w.heap.size w w'∧Iter Try.prog (closV 81 u') u'.2 RelL (raysM L (m+1)) w'∧(∀k,u'.2 k→(w.heap.size≤k∨u.2 k)∧k<w'.heap.size)∧Steady u'.2 (Iter Try.prog (closV 81 u') u'.2 RelL (raysM L (m+1))):=by
  refine (rays_any w.heap.size (slV L.length u) ⟨_,_,_,rfl⟩ ((m+1:Nat):Int) w (Nat.le_refl _)).mono ?_
  rintro e w' ⟨g,rfl,hb,⟨⟨g1,g2⟩,_⟩,hf,_⟩
  have hc':=conR_steady w w' (fun k hk=>hb.block k (hlt k hk)) hb.size hc
  obtain⟨us,hc1,hc2,hc3⟩:=hc'
  have hlt':∀k,u.2 k→k<w'.heap.size:=fun k hk=>Nat.lt_of_lt_of_le (hlt k hk) hb.size
  have hst:Steady u.2 (fun w=>ConsAt w (slV L.length u) L us):=by
    intro w1 w2 a1 a2 a3
    exact (consR_steady (L:=L) (i:=((adrK u,capN L.length u),us,u.2)) w1 w2 a1 a2 ⟨a3,hc2,hc3⟩).1
  refine⟨(.slice (some ⟨g.1,0,none⟩) g.2 0,fun k=>(k=g.1∨k=g.2)∨u.2 k),rfl,hb,?_,?_,Iter.steady⟩
  · exact rays_iter L (slV L.length u) us m g.1 g.2 w' u.2 hc1 hst hlt' hc2 g1 g2 hL hn hrow
  · rintro k (hk|hk)
    · exact⟨.inl (hf k hk).1,(hf k hk).2⟩
    · exact⟨.inr hk,hlt' k hk⟩
theorem lowL_len (l:List Int) (o:Int):(lowL l o).length=l.length:=by simp[lowL]
theorem cornersM_len {L:List Cond} {n:Nat} {x:Rat} (h:x∈cornersM L n):x.1.length=n:=by
  obtain⟨set,_,h⟩:=List.mem_filterMap.1 h
  unfold cornerM at h
  split at h
  · cases h
  · split at h
    · cases h
      show (lowL _ _).length=n
      rw[lowL_len,cornN,numsM_len]
    · cases h
theorem raysM_len {L:List Cond} {n:Nat} {x:List Int} (h:x∈raysM L n):x.length=n:=by
  obtain⟨set,_,h⟩:=List.mem_flatMap.1 h
  have h0:(ray0 L n set).length=n:=by rw[ray0,divX_len,rayL_len]
  have h1:(ray1 L n set).length=n:=by rw[ray1,divX_len,negW_len,rayL_len]
  rcases List.mem_append.1 h with h|h
  · cases hb:rayOk L n set (ray0 L n set) with
    |true=>rw[hb]at h;rw[List.mem_singleton.1 h];exact h0
    |false=>rw[hb]at h;cases h
  · cases hb:rayOk L n set (ray1 L n set) with
    |true=>rw[hb]at h;rw[List.mem_singleton.1 h];exact h1
    |false=>rw[hb]at h;cases h
def bestV (by_:List Int) (xs:List Rat) (u:Cho):Value:=.tuple #[.agg #[slV (cur (bestM by_ xs)).1.length u,I (cur (bestM by_ xs)).2],.bool (bestM by_ xs).isSome]
def bestS (by_:List Int) (xs:List Rat) (u:Cho):Nat→Prop:=sb (slV (cur (bestM by_ xs)).1.length u)
def bestR (lo:Nat) (by_:List Int) (xs:List Rat) (u:Cho) (w:World):Prop:=IntsAt w (slV (cur (bestM by_ xs)).1.length u) (cur (bestM by_ xs)).1∧∀k,bestS by_ xs u k→lo≤k
theorem bestR_steady {lo:Nat} {by_:List Int} {xs:List Rat} {u:Cho}:Steady (bestS by_ xs u) (bestR lo by_ xs u):=fun w1 w2 h1 h2 h=>⟨steady_ints w1 w2 h1 h2 h.1,h.2⟩
theorem IntsAt.le {w:World} {A:Option Addr} {n c:Nat} {l:List Int} (h:IntsAt w (.slice A n c) l):n=l.length∧n≤c:=by
  obtain⟨A',c',e,_,h2⟩:=h
  injection e with e1 e2 e3
  refine⟨e2,?_⟩
  by_cases h0:0<l.length
  · have:=h2 h0;omega
  · omega
def BestOk (by_:List Int) (L:List Cond) (n:Nat):Prop:=∀x∈cornersM L n,-9223372036854775808<dotL by_ x.1∧∀k,k<x.1.length→-9223372036854775808<x.1.getD k 0
theorem bestC (lo:Nat) (by_:List Int) (L:List Cond) (n:Nat) (u:Cho) (B:Option Addr) (d:Nat) (w:World) (hI:Iter Try.prog (closV 74 u) u.2 RelR (cornersM L n) w) (hlt:∀k,u.2 k→k<w.heap.size) (hB:RdRow w B n 1 (elI by_)) (hby:by_.length=n) (hn:n≤8) (hok:BestOk by_ L n) (hlo:lo≤w.heap.size):
    Calls Try.prog 32 #[closV 74 u,.slice B n d] w fun e w'=>∃u':Cho,e=.returned (bestV by_ (cornersM L n) u')∧Below w.heap.size w w'∧bestR lo by_ (cornersM L n) u' w'∧(∀k,bestS by_ (cornersM L n) u' k→w.heap.size≤k∧k<w'.heap.size)∧Steady (bestS by_ (cornersM L n) u') (bestR lo by_ (cornersM L n) u'):=by
  have:=best_any by_ (closV 74 u) ⟨_,_,_,rfl⟩ u.2 (cornersM L n) B d w hI hlt (by rw[hby];exact hB) (by omega) (fun x hx=>⟨by rw[hby];exact cornersM_len hx,hok x hx⟩)
  rw[hby]at this
  refine this.mono ?_
  rintro e w' ⟨nv,rfl,hb,hnv,hf⟩
  obtain⟨A,c,rfl,h1,h2⟩:=hnv
  have hnv:IntsAt w' (.slice A (cur (bestM by_ (cornersM L n))).1.length c) (cur (bestM by_ (cornersM L n))).1:=⟨A,c,rfl,h1,h2⟩
  have e:slV (cur (bestM by_ (cornersM L n))).1.length (Value.slice A (cur (bestM by_ (cornersM L n))).1.length c,fun _=>False)=.slice A (cur (bestM by_ (cornersM L n))).1.length c:=slV_eq hnv.le.2
  refine⟨(.slice A (cur (bestM by_ (cornersM L n))).1.length c,fun _=>False),by rw[bestV,e],hb,⟨by rw[e];exact hnv,?_⟩,?_,bestR_steady⟩
  · rw[bestS,e];exact fun k hk=>Nat.le_trans hlo (hf k hk).1
  · rw[bestS,e];exact hf
def leastV (wm:List Int→Bool) (n:Nat) (xs:List (List Int)) (u:Cho):Value:=.tuple #[slV (curL (leastM wm n xs)).length u,.bool (leastM wm n xs).isSome]
def leastS (wm:List Int→Bool) (n:Nat) (xs:List (List Int)) (u:Cho):Nat→Prop:=sb (slV (curL (leastM wm n xs)).length u)
def leastR (lo:Nat) (wm:List Int→Bool) (n:Nat) (xs:List (List Int)) (u:Cho) (w:World):Prop:=IntsAt w (slV (curL (leastM wm n xs)).length u) (curL (leastM wm n xs))∧∀k,leastS wm n xs u k→lo≤k
theorem leastR_steady {lo:Nat} {wm:List Int→Bool} {n:Nat} {xs:List (List Int)} {u:Cho}:Steady (leastS wm n xs u) (leastR lo wm n xs u):=fun w1 w2 h1 h2 h=>⟨steady_ints w1 w2 h1 h2 h.1,h.2⟩
theorem leastC (lo:Nat) (wm:List Int→Bool) (L:List Cond) (m:Nat) (u:Cho) (wv:Value) (rdw:Nat→Prop) (w:World) (hI:Iter Try.prog (closV 81 u) u.2 RelL (raysM L (m+1)) w) (hlt:∀k,u.2 k→k<w.heap.size) (hW:WantAt wv wm (m+1) rdw w) (hrdw:∀k,rdw k→k<w.heap.size) (hn:m+1≤8) (hlo:lo≤w.heap.size):
    Calls Try.prog 35 #[closV 81 u,wv] w fun e w'=>∃u':Cho,e=.returned (leastV wm (m+1) (raysM L (m+1)) u')∧Below w.heap.size w w'∧leastR lo wm (m+1) (raysM L (m+1)) u' w'∧(∀k,leastS wm (m+1) (raysM L (m+1)) u' k→w.heap.size≤k∧k<w'.heap.size)∧Steady (leastS wm (m+1) (raysM L (m+1)) u') (leastR lo wm (m+1) (raysM L (m+1)) u'):=by
  refine (least_any wm (m+1) (closV 81 u) wv ⟨_,_,_,rfl⟩ u.2 rdw (raysM L (m+1)) w hI hlt hW hrdw (by omega) (by omega) (fun x hx=>raysM_len hx)).mono ?_
  rintro e w' ⟨nv,rfl,hb,hnv,hf⟩
  obtain⟨A,c,rfl,h1,h2⟩:=hnv
  have hnv:IntsAt w' (.slice A (curL (leastM wm (m+1) (raysM L (m+1)))).length c) (curL (leastM wm (m+1) (raysM L (m+1)))):=⟨A,c,rfl,h1,h2⟩
  have e:slV (curL (leastM wm (m+1) (raysM L (m+1)))).length (Value.slice A (curL (leastM wm (m+1) (raysM L (m+1)))).length c,fun _=>False)=.slice A (curL (leastM wm (m+1) (raysM L (m+1)))).length c:=slV_eq hnv.le.2
  refine⟨(.slice A (curL (leastM wm (m+1) (raysM L (m+1)))).length c,fun _=>False),by rw[leastV,e],hb,⟨by rw[e];exact hnv,?_⟩,?_,leastR_steady⟩
  · rw[leastS,e];exact fun k hk=>Nat.le_trans hlo (hf k hk).1
  · rw[leastS,e];exact hf
end Go.Proofs.Ytafhnfcahhlanaa
namespace Go.Proofs.Ytafhnfcahhlanaa
open Go.Sx Go.RowKit
structure Sol where
  kind:Int
  at_:Rat
  proof:Rat
  dir:List Int
def zerosL (n:Nat):List Int:=List.replicate n 0
def firstM (p:Prob):Option Rat:=bestM (zerosL p.obj.length) (cornersM (primalM p 1) p.obj.length)
def yM (p:Prob):Option (List Int):=leastM (fun y=>decide (dotL y p.lim<0)) p.rows.length (raysM (dualM p 0) p.rows.length)
def dM (p:Prob):Option (List Int):=leastM (fun d=>decide (dotL d p.obj>0)) p.obj.length (raysM (primalM p 0) p.obj.length)
def solveM (p:Prob):Sol×Int:=
  if checkM p≠0 then (⟨0,([],0),([],0),[]⟩,1)
  else if (firstM p).isSome=false then (⟨2,([],0),(curL (yM p),1),[]⟩,0)
  else if (dM p).isSome=true then (⟨3,cur (firstM p),([],0),curL (dM p)⟩,0)
  else (⟨1,cur (bestM p.obj (cornersM (primalM p 1) p.obj.length)),cur (bestM (negW p.lim) (cornersM (dualM p 1) p.rows.length)),[]⟩,0)
def Fine (p:Prob):Prop:=CornOk (primalM p 1) p.obj.length∧BestOk (zerosL p.obj.length) (primalM p 1) p.obj.length∧BestOk p.obj (primalM p 1) p.obj.length∧CornOk (dualM p 1) p.rows.length∧BestOk (negW p.lim) (dualM p 1) p.rows.length
theorem anyRow_no {q:List Int→Bool} {M:List (List Int)} (h:¬anyRow q M=true):∀r∈M,q r=false:=by
  intro r hr
  obtain⟨i,hi,rfl⟩:=List.mem_iff_getElem.1 hr
  cases hq:q M[i] with
  |false=>rfl
  |true=>
    refine absurd ?_ h
    rw[anyRow,firstI_any,List.any_eq_true]
    refine⟨i,List.mem_range'_1.2 ⟨Nat.zero_le _,by omega⟩,?_⟩
    rw[List.getD_eq_getElem?_getD,List.getElem?_eq_getElem hi]
    exact hq
theorem check_ok {p:Prob} (h:checkM p=0):0<p.obj.length∧p.obj.length≤3∧p.rows.length≤4∧p.lim.length=p.rows.length∧∀r∈p.rows,r.length=p.obj.length:=by
  unfold checkM at h
  split at h
  · cases h
  rename_i g1
  split at h
  · cases h
  rename_i g2
  split at h
  · cases h
  rename_i g3
  refine⟨by omega,by omega,by omega,by omega,fun r hr=>?_⟩
  have:=anyRow_no (fun h'=>g3 (.inr h')) r hr
  have:((r.length:Int))=(p.obj.length:Int):=by simpa using this
  omega
theorem primalM_rows (p:Prob) (f:Int) (h4:∀r∈p.rows,r.length=p.obj.length):∀c∈primalM p f,c.1.length=p.obj.length:=by
  intro c hc
  rcases List.mem_append.1 hc with h|h
  · obtain⟨i,_,rfl⟩:=List.mem_map.1 h
    exact unitL_len _ _
  · obtain⟨i,hi,rfl⟩:=List.mem_map.1 h
    have hi:=List.mem_range.1 hi
    show (negW _).length=_
    rw[negW_len,List.getD_eq_getElem?_getD,List.getElem?_eq_getElem hi]
    exact h4 _ (List.getElem_mem hi)
theorem dualM_rows (p:Prob) (f:Int):∀c∈dualM p f,c.1.length=p.rows.length:=by
  intro c hc
  rcases List.mem_append.1 hc with h|h
  · obtain⟨i,_,rfl⟩:=List.mem_map.1 h
    exact unitL_len _ _
  · obtain⟨i,_,rfl⟩:=List.mem_map.1 h
    exact colL_len _ _
theorem primal_cho (p:Prob) (pv:Value) (vs0:Nat→Value) (f:Int) (w:World) (hp:ProbAt w pv p vs0) (h0:0<p.obj.length) (h1:p.obj.length≤1000) (h2:p.rows.length≤1000) (h3:p.lim.length=p.rows.length) (h4:∀r∈p.rows,r.length=p.obj.length):
    Calls Try.prog 34 #[pv,I f] w fun e w'=>∃u:Cho,e=.returned (slV (primalM p f).length u)∧Below w.heap.size w w'∧conR (primalM p f) u w'∧(∀k,u.2 k→w.heap.size≤k∧k<w'.heap.size)∧Steady u.2 (conR (primalM p f) u):=by
  obtain⟨n,hn⟩:∃n,p.obj.length=n+1:=⟨p.obj.length-1,by omega⟩
  exact (primal_any p pv vs0 f n w hp hn (by omega) h2 h3 (fun r hr=>by rw[h4 r hr,hn])).mono fun e w' h=>h.cho
theorem dual_cho (p:Prob) (pv:Value) (vs0:Nat→Value) (f:Int) (w:World) (hp:ProbAt w pv p vs0) (h0:0<p.obj.length) (h1:p.obj.length≤1000) (h2:p.rows.length≤1000) (h4:∀r∈p.rows,r.length=p.obj.length):
    Calls Try.prog 37 #[pv,I f] w fun e w'=>∃u:Cho,e=.returned (slV (dualM p f).length u)∧Below w.heap.size w w'∧conR (dualM p f) u w'∧(∀k,u.2 k→w.heap.size≤k∧k<w'.heap.size)∧Steady u.2 (conR (dualM p f) u):=by
  by_cases hm:p.rows.length=0
  · obtain⟨n,hn⟩:∃n,p.obj.length=n+1:=⟨p.obj.length-1,by omega⟩
    exact (dual0_any p pv vs0 f n w hp hn (List.length_eq_zero_iff.1 hm) h1).mono fun e w' h=>h.cho
  obtain⟨m,hm⟩:∃m,p.rows.length=m+1:=⟨p.rows.length-1,by omega⟩
  exact (dualS_any p pv vs0 f m w hp hm (by omega) h1 h4).mono fun e w' h=>h.cho
def SolA (s:Sol×Int) (w w':World) (e:Ending):Prop:=∃v1 v2 v3,e=.returned (.tuple #[.agg #[I s.1.kind,v1,I s.1.at_.2,v2,I s.1.proof.2,v3],I s.2])∧Below w.heap.size w w'∧IntsAt w' v1 s.1.at_.1∧IntsAt w' v2 s.1.proof.1∧IntsAt w' v3 s.1.dir∧∀k,(sb v1 k∨sb v2 k∨sb v3 k)→w.heap.size≤k∧k<w'.heap.size
theorem nil_sb {k:Nat} (h:sb (.slice none 0 0) k):False:=Nat.lt_irrefl 0 h.1
theorem want1 (ov rv lv:Value) (b n:Nat) (lim:List Int) (w:World) (hb:w.heap[b]?=some (.cells #[ov,rv,lv] 25 (0,0))) (hl:IntsAt w lv lim) (hn:n≤lim.length) (hl2:lim.length≤100000):
    WantAt (.func (.func 38) #[] #[Pt b]) (fun y=>decide (dotL y lim<0)) n (fun k=>k=b∨sb lv k) w:=
  ⟨38,b,rfl,fun args w=>Try.call38 args w,fun W h1 h2 x v hv hx=>solve1_any v ov rv lv b x lim W hv ((h1 b (.inl rfl)).trans hb) (steady_ints w W (fun k hk=>h1 k (.inr hk)) h2 hl) (by omega) hl2⟩
theorem want2 (ov rv lv:Value) (b n:Nat) (obj:List Int) (w:World) (hb:w.heap[b]?=some (.cells #[ov,rv,lv] 25 (0,0))) (hl:IntsAt w ov obj) (hn:n≤obj.length) (hl2:obj.length≤100000):
    WantAt (.func (.func 40) #[] #[Pt b]) (fun y=>decide (dotL y obj>0)) n (fun k=>k=b∨sb ov k) w:=
  ⟨40,b,rfl,fun args w=>Try.call40 args w,fun W h1 h2 x v hv hx=>solve2_any v ov rv lv b x obj W hv ((h1 b (.inl rfl)).trans hb) (steady_ints w W (fun k hk=>h1 k (.inr hk)) h2 hl) (by omega) hl2⟩
theorem solve_any (p:Prob) (pv:Value) (vs0:Nat→Value) (w:World) (hp:ProbAt w pv p vs0) (h1:p.obj.length≤100000) (h2:p.rows.length≤100000) (h3:p.lim.length≤100000) (h4:∀r∈p.rows,r.length≤100000) (hm:checkM p=0→(firstM p).isSome=false→0<p.rows.length) (hfine:checkM p=0→Fine p):
    Calls Try.prog 11 #[pv] w fun e w'=>SolA (solveM p) w w' e:=by
  have hp0:=hp
  obtain⟨ov,rv,lv,rfl,⟨Ao,co,rfl,ho,hoc⟩,⟨Ar,cr,rfl,hr,hrc,hri⟩,⟨Al,cl,rfl,hl,hlc⟩⟩:=hp
  refine enterSay [] [.agg [.k (.slice Ao p.obj.length co),.k (.slice Ar p.rows.length cr),.k (.slice Al p.lim.length cl)]] [(990,.say (· < w.heap.size) (asOf w))] Try.func11 rfl 104 Try.ntmps11 rfl rfl ⟨⟨trivial,trivial,trivial,trivial⟩,trivial⟩ ⟨⟨asOf.refl w,fun k hk=>hk,steady_asOf w⟩,trivial,trivial⟩ ?_
  refine G.seqR tfine rfl trivial ?_
  refine G.seq ?_
  refine G.seqC tfine rfl trivial ?_
  refine GO.callPlain (v:=I (checkM p)) rfl rfl rfl rfl (fun args w=>Try.call13 args w) (fun ρ w1 hs hok=>check_any p (.agg #[.slice Ao p.obj.length co,.slice Ar p.rows.length cr,.slice Al p.lim.length cl]) vs0 w1 (hp0.below hs.fr.toBelow) h1 h2 h3 h4) ?_
  refine GO.fin tfine rfl trivial ?_
  refine G.cond (b:=checkM p != 0) rfl (fun h=>?_) (fun h=>?_)
  · have h:checkM p≠0:=by simpa using h
    refine G.seqR tfine rfl trivial ?_
    refine G.ret ⟨.inl rfl,fun ρ a w' hs=>⟨_,results_run tfine hs rfl,?_⟩⟩
    rw[solveM,if_pos h]
    exact⟨.slice none 0 0,.slice none 0 0,.slice none 0 0,rfl,hs.mem.fr.toBelow,IntsAt.nil _,IntsAt.nil _,IntsAt.nil _,fun k hk=>by rcases hk with hk|hk|hk<;>exact (nil_sb hk).elim⟩
  have hc0:checkM p=0:=by simpa using h
  obtain⟨n0,n3,m4,hll,hrl⟩:=check_ok hc0
  obtain⟨cok1,bok0,bok1,cok2,bok2⟩:=hfine hc0
  refine G.skip ?_
  refine G.seqD tfine hmix [0,1,3,0,8,24,7,127] [] rfl rfl rfl rfl trivial ?_
  obtain⟨F1,hF1⟩:∃F1,F1=firstM p:=⟨_,rfl⟩
  have hF1':F1=bestM (zerosL p.obj.length) (cornersM (primalM p 1) p.obj.length):=hF1
  have hp1l:(primalM p 1).length≤8:=by rw[primalM_len];omega
  have hprows:=primalM_rows p 1 hrl
  refine G.seq ?_
  apply G.drawC (ch:=fun j=>match j with|1=>some (sayF 830 (slV (primalM p 1).length) (fun u=>u.2) (conR (primalM p 1)))|3=>some (sayF 832 (closV 74) (fun u=>u.2) (fun u=>Iter Try.prog (closV 74 u) u.2 RelR (cornersM (primalM p 1) p.obj.length)))|6=>some (sayF 835 (bestV (zerosL p.obj.length) (cornersM (primalM p 1) p.obj.length)) (bestS (zerosL p.obj.length) (cornersM (primalM p 1) p.obj.length)) (bestR w.heap.size (zerosL p.obj.length) (cornersM (primalM p 1) p.obj.length)))|_=>none)
    (cls:=[0,1,0,7,0,16,63,127,255,255,0,1535,4095]) (X:=[(1,830),(3,832),(5,34),(6,835),(11,6)]) hmix rfl rfl rfl
  · intro c
    refine GC.more tfine 0 rfl rfl rfl trivial ?_
    refine GC.choice 1 rfl _ rfl (StepsC.callSay 830 (slV (primalM p 1).length) (fun u=>u.2) (conR (primalM p 1)) rfl rfl rfl rfl rfl (fun args w=>Try.call34 args w) (fun m' hle ρ w1 hs hok=>primal_cho p (.agg #[.slice Ao p.obj.length co,.slice Ar p.rows.length cr,.slice Al p.lim.length cl]) vs0 1 w1 (hp0.below hs.fr.toBelow) n0 (by omega) (by omega) hll hrl)) rfl sayF_nm rfl ?_
    refine GC.more tfine 2 rfl rfl rfl trivial ?_
    refine GC.choice 3 rfl _ rfl (StepsC.callSayX 830 832 (closV 74) (fun u=>u.2) (fun u=>Iter Try.prog (closV 74 u) u.2 RelR (cornersM (primalM p 1) p.obj.length)) rfl rfl rfl rfl rfl rfl (fun args w=>Try.call33 args w) (fun m' hle ρ w1 hs hok=>?_)) rfl sayF_nm rfl ?_
    · obtain⟨x1,x2,_⟩:=hs.ok 830 _ (hle.at rfl)
      exact cornersC (primalM p 1) (c 1) p.obj.length w1 x1 x2 hp1l (by omega) hprows cok1
    refine GC.more tfine 4 rfl rfl rfl trivial ?_
    refine GC.step 5 rfl rfl (Steps.make1 p.obj.length apT35 rfl rfl rfl rfl rfl rfl rfl rfl rfl n0 (by unfold maxLen;omega) (by omega)) rfl ?_
    refine GC.choice 6 rfl _ rfl (StepsC.callSay 835 (bestV (zerosL p.obj.length) (cornersM (primalM p 1) p.obj.length)) (bestS (zerosL p.obj.length) (cornersM (primalM p 1) p.obj.length)) (bestR w.heap.size (zerosL p.obj.length) (cornersM (primalM p 1) p.obj.length)) rfl rfl rfl rfl rfl (fun args w=>Try.call32 args w) (fun m' hle ρ w1 hs hok=>?_)) rfl sayF_nm rfl ?_
    · obtain⟨x1,x2,_⟩:=hs.ok 832 _ (hle.at rfl)
      have hB:=hs.rdArr (hle.at (y:=34) rfl) 0 p.obj.length (by omega)
      exact bestC w.heap.size (zerosL p.obj.length) (primalM p 1) p.obj.length (c 3) _ _ w1 x1 x2 (hB.congr fun i hi=>by simp[elI,zerosL,List.getD_eq_getElem?_getD,List.getElem?_replicate,hi]) (by simp[zerosL]) (by omega) bok0 hs.fr.size
    refine GC.more tfine 7 rfl rfl rfl trivial ?_
    refine GC.nil ?_
    obtain⟨bf,hbf⟩:∃bf,bf=c 6:=⟨_,rfl⟩
    refine G.weaken (st':=St.of [(1,.v (.c (.ptr 1 0 0 0))),(2,.v (.c (.ptr 2 0 0 0))),(4,.v (.c (.k (I p.obj.length)))),(5,.v (.c (.k (I p.rows.length)))),(6,.v (.c (.ptr 6 0 0 0))),(7,.v (.c (.k (.bool F1.isSome))))]
        [(990,.say (· < w.heap.size) (asOf w)),(1,.var 25 [.k (.slice Ao p.obj.length co),.k (.slice Ar p.rows.length cr),.k (.slice Al p.lim.length cl)]),(2,.var 31 [.k (I 0),.k (.slice none 0 0),.k (I 0),.k (.slice none 0 0),.k (I 0),.k (.slice none 0 0)]),(6,.var 29 [.k (slV (cur F1).1.length bf),.k (I (cur F1).2)]),(835,.say (sb (slV (cur F1).1.length bf)) (fun w1=>IntsAt w1 (slV (cur F1).1.length bf) (cur F1).1∧∀k,sb (slV (cur F1).1.length bf) k→w.heap.size≤k))])
      (St.le_of rfl ⟨⟨_,rfl,Blk.le_refl _⟩,⟨_,rfl,Blk.le_refl _⟩,⟨_,rfl,Blk.le_refl _⟩,⟨_,rfl,by rw[hbf,hF1'];exact Blk.le_refl _⟩,⟨_,rfl,by rw[hbf,hF1'];exact Blk.le_refl _⟩,trivial⟩ ⟨rfl,rfl,rfl,rfl,rfl,by rw[hF1'];rfl,trivial⟩) ?_
    clear hbf
    refine G.seq ?_
    refine G.seqR tfine rfl trivial ?_
    refine G.cond (b:=!F1.isSome) rfl (fun h=>?_) (fun h=>?_)
    · have hf:F1.isSome=false:=by simpa using h
      obtain⟨mm,hmm⟩:∃mm,p.rows.length=mm+1:=⟨p.rows.length-1,by have:=hm hc0 (by rw[←hF1];exact hf);omega⟩
      have hdl:(dualM p 0).length≤8:=by rw[dualM_len];omega
      refine G.seqC tfine rfl trivial ?_
      refine GO.callSay 842 (slV (dualM p 0).length) (fun u=>u.2) (conR (dualM p 0)) rfl rfl rfl rfl rfl (fun args w=>Try.call37 args w) (fun ρ w1 hs hok=>dual_cho p (.agg #[.slice Ao p.obj.length co,.slice Ar p.rows.length cr,.slice Al p.lim.length cl]) vs0 0 w1 (hp0.below hs.fr.toBelow) n0 (by omega) (by omega) hrl) fun ud=>?_
      refine GO.more tfine rfl trivial ?_
      refine GO.callSayX 842 844 (closV 81) (fun u:Cho=>u.2) (fun u=>Iter Try.prog (closV 81 u) u.2 RelL (raysM (dualM p 0) p.rows.length)) rfl rfl rfl rfl rfl rfl (fun args w=>Try.call36 args w) (fun ρ w1 hs hok=>?_) fun ur=>?_
      · obtain⟨x1,x2,_⟩:=hs.ok 842 _ rfl
        have:=raysC (dualM p 0) ud mm w1 x1 x2 hdl (by omega) (fun c hc=>by rw[dualM_rows p 0 c hc,hmm])
        rw[←hmm]at this
        exact this
      refine GO.more tfine rfl trivial ?_
      refine GO.callSay 846 (leastV (fun y=>decide (dotL y p.lim<0)) p.rows.length (raysM (dualM p 0) p.rows.length)) (leastS (fun y=>decide (dotL y p.lim<0)) p.rows.length (raysM (dualM p 0) p.rows.length)) (leastR w.heap.size (fun y=>decide (dotL y p.lim<0)) p.rows.length (raysM (dualM p 0) p.rows.length)) rfl rfl rfl rfl rfl (fun args w=>Try.call35 args w) (fun ρ w1 hs hok=>?_) fun uy=>?_
      · obtain⟨x1,x2,_⟩:=hs.ok 844 _ rfl
        have k1:=hs.ok 1 _ rfl
        have hb1:w1.heap[(ρ 1).1]?=some (.cells #[.slice Ao p.obj.length co,.slice Ar p.rows.length cr,.slice Al p.lim.length cl] 25 (0,0)):=by simpa[AC.conc] using k1.2.2.1
        have hl1:IntsAt w1 (.slice Al p.lim.length cl) p.lim:=⟨Al,cl,rfl,hl.below hs.fr.toBelow,hlc⟩
        have:=leastC w.heap.size (fun y=>decide (dotL y p.lim<0)) (dualM p 0) mm ur (.func (.func 38) #[] #[Pt (ρ 1).1]) (fun k=>k=(ρ 1).1∨sb (.slice Al p.lim.length cl) k) w1 (by rw[←hmm];exact x1) x2 (by rw[←hmm];exact want1 _ _ _ (ρ 1).1 p.rows.length p.lim w1 hb1 hl1 (by omega) h3)
          (fun k hk=>by
            rcases hk with rfl|hk
            · exact lt_of_heap hb1
            · exact sb_lt (hl.below hs.fr.toBelow) k hk) (by omega) hs.fr.size
        rw[←hmm]at this
        have e:(List.map (AV.conc ρ) [AV.c (.k (closV 81 ur)),AV.c (.fn 38 [.own 1 0])]++List.map (Cap.conc ρ) []).toArray=#[closV 81 ur,.func (.func 38) #[] #[Pt (ρ 1).1]]:=by
          simp[AV.conc,AC.conc,Cap.conc,Pt,k1.1]
        rw[←e]at this
        exact this
      refine GO.fin tfine rfl trivial ?_
      refine G.seqR tfine rfl trivial ?_
      refine G.ret ⟨.inl rfl,fun ρ a w' hs=>⟨_,results_run tfine hs rfl,?_⟩⟩
      obtain⟨x1,x2,_⟩:=hs.mem.ok 846 _ rfl
      rw[solveM,if_neg (by rw[hc0];decide),if_pos (by rw[←hF1];exact hf)]
      refine⟨.slice none 0 0,slV (curL (yM p)).length uy,.slice none 0 0,rfl,hs.mem.fr.toBelow,IntsAt.nil _,x1.1,IntsAt.nil _,fun k hk=>?_⟩
      rcases hk with hk|hk|hk
      · exact (nil_sb hk).elim
      · exact⟨x1.2 k hk,x2 k hk⟩
      · exact (nil_sb hk).elim
    have hf:F1.isSome=true:=by simpa using h
    refine G.skip ?_
    obtain⟨nn,hnn⟩:∃nn,p.obj.length=nn+1:=⟨p.obj.length-1,by omega⟩
    have hp0l:(primalM p 0).length≤8:=by rw[primalM_len];omega
    refine G.seqC tfine rfl trivial ?_
    refine GO.callSay 842 (slV (primalM p 0).length) (fun u=>u.2) (conR (primalM p 0)) rfl rfl rfl rfl rfl (fun args w=>Try.call34 args w) (fun ρ w1 hs hok=>primal_cho p (.agg #[.slice Ao p.obj.length co,.slice Ar p.rows.length cr,.slice Al p.lim.length cl]) vs0 0 w1 (hp0.below hs.fr.toBelow) n0 (by omega) (by omega) hll hrl) fun ud=>?_
    refine GO.more tfine rfl trivial ?_
    refine GO.callSayX 842 844 (closV 81) (fun u:Cho=>u.2) (fun u=>Iter Try.prog (closV 81 u) u.2 RelL (raysM (primalM p 0) p.obj.length)) rfl rfl rfl rfl rfl rfl (fun args w=>Try.call36 args w) (fun ρ w1 hs hok=>?_) fun ur=>?_
    · obtain⟨x1,x2,_⟩:=hs.ok 842 _ rfl
      have:=raysC (primalM p 0) ud nn w1 x1 x2 hp0l (by omega) (fun c hc=>by rw[primalM_rows p 0 hrl c hc,hnn])
      rw[←hnn]at this
      exact this
    refine GO.more tfine rfl trivial ?_
    refine GO.callSay 846 (leastV (fun y=>decide (dotL y p.obj>0)) p.obj.length (raysM (primalM p 0) p.obj.length)) (leastS (fun y=>decide (dotL y p.obj>0)) p.obj.length (raysM (primalM p 0) p.obj.length)) (leastR w.heap.size (fun y=>decide (dotL y p.obj>0)) p.obj.length (raysM (primalM p 0) p.obj.length)) rfl rfl rfl rfl rfl (fun args w=>Try.call35 args w) (fun ρ w1 hs hok=>?_) fun uy=>?_
    · obtain⟨x1,x2,_⟩:=hs.ok 844 _ rfl
      have k1:=hs.ok 1 _ rfl
      have hb1:w1.heap[(ρ 1).1]?=some (.cells #[.slice Ao p.obj.length co,.slice Ar p.rows.length cr,.slice Al p.lim.length cl] 25 (0,0)):=by simpa[AC.conc] using k1.2.2.1
      have hl1:IntsAt w1 (.slice Ao p.obj.length co) p.obj:=⟨Ao,co,rfl,ho.below hs.fr.toBelow,hoc⟩
      have:=leastC w.heap.size (fun y=>decide (dotL y p.obj>0)) (primalM p 0) nn ur (.func (.func 40) #[] #[Pt (ρ 1).1]) (fun k=>k=(ρ 1).1∨sb (.slice Ao p.obj.length co) k) w1 (by rw[←hnn];exact x1) x2 (by rw[←hnn];exact want2 _ _ _ (ρ 1).1 p.obj.length p.obj w1 hb1 hl1 (Nat.le_refl _) h1)
        (fun k hk=>by
          rcases hk with rfl|hk
          · exact lt_of_heap hb1
          · exact sb_lt (ho.below hs.fr.toBelow) k hk) (by omega) hs.fr.size
      rw[←hnn]at this
      have e:(List.map (AV.conc ρ) [AV.c (.k (closV 81 ur)),AV.c (.fn 40 [.own 1 0])]++List.map (Cap.conc ρ) []).toArray=#[closV 81 ur,.func (.func 40) #[] #[Pt (ρ 1).1]]:=by
        simp[AV.conc,AC.conc,Cap.conc,Pt,k1.1]
      rw[←e]at this
      exact this
    refine GO.fin tfine rfl trivial ?_
    refine G.seq ?_
    refine G.seqR tfine rfl trivial ?_
    refine G.cond (b:=(dM p).isSome) rfl (fun hd=>?_) (fun hd=>?_)
    · refine G.seqR tfine rfl trivial ?_
      refine G.ret ⟨.inl rfl,fun ρ a w' hs=>⟨_,results_run tfine hs rfl,?_⟩⟩
      obtain⟨x1,x2,_⟩:=hs.mem.ok 846 _ rfl
      obtain⟨y1,y2,_⟩:=hs.mem.ok 835 _ rfl
      rw[solveM,if_neg (by rw[hc0];decide),if_neg (by rw[←hF1,hf];decide),if_pos hd,←hF1]
      refine⟨slV (cur F1).1.length bf,.slice none 0 0,slV (curL (dM p)).length uy,rfl,hs.mem.fr.toBelow,y1.1,IntsAt.nil _,x1.1,fun k hk=>?_⟩
      rcases hk with hk|hk|hk
      · exact⟨y1.2 k hk,y2 k hk⟩
      · exact (nil_sb hk).elim
      · exact⟨x1.2 k hk,x2 k hk⟩
    refine G.skip ?_
    refine G.weaken (st':=St.of [(1,.v (.c (.ptr 1 0 0 0))),(2,.v (.c (.ptr 2 0 0 0))),(4,.v (.c (.k (I p.obj.length)))),(5,.v (.c (.k (I p.rows.length))))] [(990,.say (· < w.heap.size) (asOf w)),(1,.var 25 [.k (.slice Ao p.obj.length co),.k (.slice Ar p.rows.length cr),.k (.slice Al p.lim.length cl)]),(2,.var 31 [.k (I 0),.k (.slice none 0 0),.k (I 0),.k (.slice none 0 0),.k (I 0),.k (.slice none 0 0)])]) (St.le_of rfl ⟨⟨_,rfl,Blk.le_refl _⟩,⟨_,rfl,Blk.le_refl _⟩,⟨_,rfl,Blk.le_refl _⟩,trivial⟩ ⟨rfl,rfl,rfl,rfl,trivial⟩) ?_
    refine G.seq ?_
    apply G.drawC (ch:=fun j=>match j with|1=>some (sayF 830 (slV (primalM p 1).length) (fun u=>u.2) (conR (primalM p 1)))|3=>some (sayF 832 (closV 74) (fun u=>u.2) (fun u=>Iter Try.prog (closV 74 u) u.2 RelR (cornersM (primalM p 1) p.obj.length)))|6=>some (sayF 835 (bestV p.obj (cornersM (primalM p 1) p.obj.length)) (bestS p.obj (cornersM (primalM p 1) p.obj.length)) (bestR w.heap.size p.obj (cornersM (primalM p 1) p.obj.length)))|_=>none)
      (cls:=[0,1,0,7,0,16,63,127,255,255,0,1535,4095]) (X:=[(1,830),(3,832),(6,835),(11,12)]) hmix rfl rfl rfl
    · intro c
      refine GC.more tfine 0 rfl rfl rfl trivial ?_
      refine GC.choice 1 rfl _ rfl (StepsC.callSay 830 (slV (primalM p 1).length) (fun u=>u.2) (conR (primalM p 1)) rfl rfl rfl rfl rfl (fun args w=>Try.call34 args w) (fun m' hle ρ w1 hs hok=>primal_cho p (.agg #[.slice Ao p.obj.length co,.slice Ar p.rows.length cr,.slice Al p.lim.length cl]) vs0 1 w1 (hp0.below hs.fr.toBelow) n0 (by omega) (by omega) hll hrl)) rfl sayF_nm rfl ?_
      refine GC.more tfine 2 rfl rfl rfl trivial ?_
      refine GC.choice 3 rfl _ rfl (StepsC.callSayX 830 832 (closV 74) (fun u=>u.2) (fun u=>Iter Try.prog (closV 74 u) u.2 RelR (cornersM (primalM p 1) p.obj.length)) rfl rfl rfl rfl rfl rfl (fun args w=>Try.call33 args w) (fun m' hle ρ w1 hs hok=>?_)) rfl sayF_nm rfl ?_
      · obtain⟨x1,x2,_⟩:=hs.ok 830 _ (hle.at rfl)
        exact cornersC (primalM p 1) (c 1) p.obj.length w1 x1 x2 hp1l (by omega) hprows cok1
      refine GC.more tfine 4 rfl rfl rfl trivial ?_
      refine GC.choice 6 rfl _ rfl (StepsC.callSay 835 (bestV p.obj (cornersM (primalM p 1) p.obj.length)) (bestS p.obj (cornersM (primalM p 1) p.obj.length)) (bestR w.heap.size p.obj (cornersM (primalM p 1) p.obj.length)) rfl rfl rfl rfl rfl (fun args w=>Try.call32 args w) (fun m' hle ρ w1 hs hok=>?_)) rfl sayF_nm rfl ?_
      · obtain⟨x1,x2,_⟩:=hs.ok 832 _ (hle.at rfl)
        exact bestC w.heap.size p.obj (primalM p 1) p.obj.length (c 3) Ao co w1 x1 x2 (ho.below hs.fr.toBelow) rfl (by omega) bok1 hs.fr.size
      refine GC.more tfine 7 rfl rfl rfl trivial ?_
      refine GC.nil ?_
      obtain⟨ba,hba⟩:∃ba,ba=c 6:=⟨_,rfl⟩
      obtain⟨F2,hF2⟩:∃F2,F2=bestM p.obj (cornersM (primalM p 1) p.obj.length):=⟨_,rfl⟩
      refine G.weaken (st':=St.of [(1,.v (.c (.ptr 1 0 0 0))),(2,.v (.c (.ptr 2 0 0 0))),(4,.v (.c (.k (I p.obj.length)))),(5,.v (.c (.k (I p.rows.length)))),(12,.v (.c (.ptr 12 0 0 0)))]
          [(990,.say (· < w.heap.size) (asOf w)),(1,.var 25 [.k (.slice Ao p.obj.length co),.k (.slice Ar p.rows.length cr),.k (.slice Al p.lim.length cl)]),(2,.var 31 [.k (I 0),.k (.slice none 0 0),.k (I 0),.k (.slice none 0 0),.k (I 0),.k (.slice none 0 0)]),(12,.var 29 [.k (slV (cur F2).1.length ba),.k (I (cur F2).2)]),(835,.say (sb (slV (cur F2).1.length ba)) (fun w1=>IntsAt w1 (slV (cur F2).1.length ba) (cur F2).1∧∀k,sb (slV (cur F2).1.length ba) k→w.heap.size≤k))])
        (St.le_of rfl ⟨⟨_,rfl,Blk.le_refl _⟩,⟨_,rfl,Blk.le_refl _⟩,⟨_,rfl,Blk.le_refl _⟩,⟨_,rfl,by rw[hba,hF2];exact Blk.le_refl _⟩,⟨_,rfl,by rw[hba,hF2];exact Blk.le_refl _⟩,trivial⟩ ⟨rfl,rfl,rfl,rfl,rfl,trivial⟩) ?_
      clear hba
      by_cases hz:p.rows.length=0
      · have hlz:p.lim.length=0:=by omega
        have hd1l:(dualM p 1).length≤8:=by rw[dualM_len];omega
        refine G.seqC tfine rfl trivial ?_
        refine GO.callSay 77 (fun u=>.slice (adrC u) 0 0) (fun _ _=>False) (fun _ _=>True) rfl rfl rfl rfl rfl (fun args w=>Try.call26 args w) (fun ρ w1 hs hok=>?_) fun uc=>?_
        · have:=clone0_any Al cl w1
          rw[←hlz]at this
          refine this.mono ?_
          rintro e w' ⟨v,rfl,⟨A0,rfl,_⟩,hb⟩
          exact⟨(.slice A0 0 0,fun _=>False),by rw[hlz];rfl,hb,trivial,fun k hk=>hk.elim,steady_true⟩
        refine GO.fin tfine rfl trivial ?_
        refine G.seq ?_
        refine G.seqR tfine rfl trivial ?_
        refine G.block ?_
        refine G.loop (fun _:Unit=>St.of [(1,.v (.c (.ptr 1 0 0 0))),(2,.v (.c (.ptr 2 0 0 0))),(4,.v (.c (.k (I p.obj.length)))),(5,.v (.c (.k (I p.rows.length)))),(12,.v (.c (.ptr 12 0 0 0))),(14,.v (.c (.k (.slice (adrC uc) 0 0)))),(79,.v (.c (.k (I ((0:Nat):Int))))),(80,.v (.c (.k (I 0))))]
            [(990,.say (· < w.heap.size) (asOf w)),(1,.var 25 [.k (.slice Ao p.obj.length co),.k (.slice Ar p.rows.length cr),.k (.slice Al p.lim.length cl)]),(2,.var 31 [.k (I 0),.k (.slice none 0 0),.k (I 0),.k (.slice none 0 0),.k (I 0),.k (.slice none 0 0)]),(12,.var 29 [.k (slV (cur F2).1.length ba),.k (I (cur F2).2)]),(835,.say (sb (slV (cur F2).1.length ba)) (fun w1=>IntsAt w1 (slV (cur F2).1.length ba) (cur F2).1∧∀k,sb (slV (cur F2).1.length ba) k→w.heap.size≤k))])
          (fun _=>True) (fun _=>0) () trivial (St.le_of rfl ⟨⟨_,rfl,Blk.le_refl _⟩,⟨_,rfl,Blk.le_refl _⟩,⟨_,rfl,Blk.le_refl _⟩,⟨_,rfl,Blk.le_refl _⟩,⟨_,rfl,Blk.le_refl _⟩,trivial⟩ ⟨rfl,rfl,rfl,rfl,rfl,rfl,rfl,rfl,trivial⟩) ?_
        rintro _ _
        refine G.seqR tfine rfl trivial ?_
        refine G.seq ?_
        refine G.cond (b:=decide ((0:Int)<((0:Nat):Int))) rfl (fun h6=>?_) (fun _=>?_)
        · cases h6
        refine G.exit ?_
        refine G.seqC tfine rfl trivial ?_
        refine GO.callSay 894 (slV (dualM p 1).length) (fun u=>u.2) (conR (dualM p 1)) rfl rfl rfl rfl rfl (fun args w=>Try.call37 args w) (fun ρ w1 hs hok=>dual_cho p (.agg #[.slice Ao p.obj.length co,.slice Ar p.rows.length cr,.slice Al p.lim.length cl]) vs0 1 w1 (hp0.below hs.fr.toBelow) n0 (by omega) (by omega) hrl) fun ud=>?_
        refine GO.more tfine rfl trivial ?_
        refine GO.callSayX 894 896 (closV 74) (fun u:Cho=>u.2) (fun u=>Iter Try.prog (closV 74 u) u.2 RelR (cornersM (dualM p 1) p.rows.length)) rfl rfl rfl rfl rfl rfl (fun args w=>Try.call33 args w) (fun ρ w1 hs hok=>?_) fun ur=>?_
        · obtain⟨x1,x2,_⟩:=hs.ok 894 _ rfl
          exact cornersC (dualM p 1) ud p.rows.length w1 x1 x2 hd1l (by omega) (dualM_rows p 1) cok2
        refine GO.more tfine rfl trivial ?_
        refine GO.callSay 898 (bestV (negW p.lim) (cornersM (dualM p 1) p.rows.length)) (bestS (negW p.lim) (cornersM (dualM p 1) p.rows.length)) (bestR w.heap.size (negW p.lim) (cornersM (dualM p 1) p.rows.length)) rfl rfl rfl rfl rfl (fun args w=>Try.call32 args w) (fun ρ w1 hs hok=>?_) fun uy=>?_
        · obtain⟨x1,x2,_⟩:=hs.ok 896 _ rfl
          have:=bestC w.heap.size (negW p.lim) (dualM p 1) p.rows.length ur (adrC uc) 0 w1 x1 x2 (by rw[hz];exact RdRow.nil _ _ _ _) (by rw[negW_len,hll]) (by omega) bok2 hs.fr.size
          have e:(Value.slice (adrC uc) 0 0)=.slice (adrC uc) p.rows.length 0:=by rw[hz]
          show Calls Try.prog _ #[closV 74 ur,.slice (adrC uc) 0 0] w1 _
          rw[e]
          exact this
        refine GO.fin tfine rfl trivial ?_
        refine G.seqR tfine rfl trivial ?_
        refine G.ret ⟨.inl rfl,fun ρ a w' hs=>⟨_,results_run tfine hs rfl,?_⟩⟩
        obtain⟨x1,x2,_⟩:=hs.mem.ok 898 _ rfl
        obtain⟨y1,y2,_⟩:=hs.mem.ok 835 _ rfl
        rw[solveM,if_neg (by rw[hc0];decide),if_neg (by rw[←hF1,hf];decide),if_neg (by rw[hd];decide),←hF2]
        refine⟨slV (cur F2).1.length ba,slV (cur (bestM (negW p.lim) (cornersM (dualM p 1) p.rows.length))).1.length uy,.slice none 0 0,rfl,hs.mem.fr.toBelow,y1.1,x1.1,IntsAt.nil _,fun k hk=>?_⟩
        rcases hk with hk|hk|hk
        · exact⟨y1.2 k hk,y2 k hk⟩
        · exact⟨x1.2 k hk,x2 k hk⟩
        · exact (nil_sb hk).elim
      obtain⟨mm,hmm⟩:∃mm,p.rows.length=mm+1:=⟨p.rows.length-1,by omega⟩
      refine G.seqC tfine rfl trivial ?_
      refine GO.callCap 77 3 p.lim.length 1 (elI p.lim) rfl rfl rfl rfl rfl rfl (fun args w=>Try.call26 args w) (fun ρ w1 hs hok=>cloneC_any Al cl p.lim w1 (hl.below hs.fr.toBelow) (by omega) (by omega)) fun cc hcc=>?_
      refine GO.fin tfine rfl trivial ?_
      refine G.seq ?_
      refine G.seqR tfine rfl trivial ?_
      refine G.block ?_
      refine G.loop (fun j:Nat=>St.of [(1,.v (.c (.ptr 1 0 0 0))),(2,.v (.c (.ptr 2 0 0 0))),(4,.v (.c (.k (I p.obj.length)))),(5,.v (.c (.k (I p.rows.length)))),(12,.v (.c (.ptr 12 0 0 0))),(14,.v (.c (.slc 77 0 1 p.lim.length cc))),(79,.v (.c (.k (I p.lim.length)))),(80,.v (.c (.k (I j))))]
          [(990,.say (· < w.heap.size) (asOf w)),(1,.var 25 [.k (.slice Ao p.obj.length co),.k (.slice Ar p.rows.length cr),.k (.slice Al p.lim.length cl)]),(2,.var 31 [.k (I 0),.k (.slice none 0 0),.k (I 0),.k (.slice none 0 0),.k (I 0),.k (.slice none 0 0)]),(12,.var 29 [.k (slV (cur F2).1.length ba),.k (I (cur F2).2)]),(835,.say (sb (slV (cur F2).1.length ba)) (fun w1=>IntsAt w1 (slV (cur F2).1.length ba) (cur F2).1∧∀k,sb (slV (cur F2).1.length ba) k→w.heap.size≤k)),(77,.arr 3 1 p.lim.length (mixE p.lim (negW p.lim) j) ((cc-p.lim.length)*1))])
        (fun j=>j≤p.lim.length) (fun j=>p.lim.length-j) 0 (Nat.zero_le _) (St.le_of rfl ⟨⟨_,rfl,Blk.le_refl _⟩,⟨_,rfl,Blk.le_refl _⟩,⟨_,rfl,Blk.le_refl _⟩,⟨_,rfl,Blk.le_refl _⟩,⟨_,rfl,Blk.le_refl _⟩,⟨_,rfl,rfl,rfl,Nat.le_refl _,(fun j hj=>rfl),Nat.le_refl _⟩,trivial⟩ ⟨rfl,rfl,rfl,rfl,rfl,rfl,rfl,rfl,trivial⟩) ?_
      rintro j hj
      refine G.seqR tfine rfl trivial ?_
      refine G.seq ?_
      refine G.cond (b:=decide ((j:Int)<(p.lim.length:Int))) rfl (fun h6=>?_) (fun h6=>?_)
      · have h6:=of_decide_eq_true h6
        have hjn:j<p.lim.length:=by omega
        refine G.skip ?_
        refine G.seq ?_
        refine G.block ?_
        refine G.seqR tfine rfl trivial ?_
        refine G.reg tfine rfl ⟨by omega,by omega,by omega,by omega,by omega,by omega,trivial⟩ ?_
        refine G.reg tfine rfl trivial ?_
        rw[IntWalk.i64_in ((j:Int)+1) (by omega)]
        refine⟨j+1,by omega,(by show p.lim.length-(j+1)<p.lim.length-j;omega),?_⟩
        exact St.le_of rfl ⟨⟨_,rfl,Blk.le_refl _⟩,⟨_,rfl,Blk.le_refl _⟩,⟨_,rfl,Blk.le_refl _⟩,⟨_,rfl,Blk.le_refl _⟩,⟨_,rfl,Blk.le_refl _⟩,⟨_,rfl,rfl,rfl,Nat.le_refl _,(fun q hq=>mixN_step p.lim j q (by omega)),Nat.le_refl _⟩,trivial⟩ ⟨rfl,rfl,rfl,rfl,rfl,rfl,rfl,by simp[up,I],trivial⟩
      have h6:=of_decide_eq_false h6
      have e:j=p.lim.length:=by omega
      subst e
      refine G.exit ?_
      have hd1l:(dualM p 1).length≤8:=by rw[dualM_len];omega
      refine G.seqC tfine rfl trivial ?_
      refine GO.callSay 894 (slV (dualM p 1).length) (fun u=>u.2) (conR (dualM p 1)) rfl rfl rfl rfl rfl (fun args w=>Try.call37 args w) (fun ρ w1 hs hok=>dual_cho p (.agg #[.slice Ao p.obj.length co,.slice Ar p.rows.length cr,.slice Al p.lim.length cl]) vs0 1 w1 (hp0.below hs.fr.toBelow) n0 (by omega) (by omega) hrl) fun ud=>?_
      refine GO.more tfine rfl trivial ?_
      refine GO.callSayX 894 896 (closV 74) (fun u:Cho=>u.2) (fun u=>Iter Try.prog (closV 74 u) u.2 RelR (cornersM (dualM p 1) p.rows.length)) rfl rfl rfl rfl rfl rfl (fun args w=>Try.call33 args w) (fun ρ w1 hs hok=>?_) fun ur=>?_
      · obtain⟨x1,x2,_⟩:=hs.ok 894 _ rfl
        exact cornersC (dualM p 1) ud p.rows.length w1 x1 x2 hd1l (by omega) (dualM_rows p 1) cok2
      refine GO.more tfine rfl trivial ?_
      refine GO.callSay 898 (bestV (negW p.lim) (cornersM (dualM p 1) p.rows.length)) (bestS (negW p.lim) (cornersM (dualM p 1) p.rows.length)) (bestR w.heap.size (negW p.lim) (cornersM (dualM p 1) p.rows.length)) rfl rfl rfl rfl rfl (fun args w=>Try.call32 args w) (fun ρ w1 hs hok=>?_) fun uy=>?_
      · obtain⟨x1,x2,_⟩:=hs.ok 896 _ rfl
        have hB:=hs.rdArr (x:=77) rfl 0 p.lim.length (by omega)
        have:=bestC w.heap.size (negW p.lim) (dualM p 1) p.rows.length ur _ cc w1 x1 x2 (by rw[←hll];exact hB.congr fun i hi=>by rw[Nat.zero_add,mixE_all p.lim (negW p.lim) p.lim.length i hi]) (by rw[negW_len,hll]) (by omega) bok2 hs.fr.size
        rw[←hll]at this ⊢
        exact this
      refine GO.fin tfine rfl trivial ?_
      refine G.seqR tfine rfl trivial ?_
      refine G.ret ⟨.inl rfl,fun ρ a w' hs=>⟨_,results_run tfine hs rfl,?_⟩⟩
      obtain⟨x1,x2,_⟩:=hs.mem.ok 898 _ rfl
      obtain⟨y1,y2,_⟩:=hs.mem.ok 835 _ rfl
      rw[solveM,if_neg (by rw[hc0];decide),if_neg (by rw[←hF1,hf];decide),if_neg (by rw[hd];decide),←hF2]
      refine⟨slV (cur F2).1.length ba,slV (cur (bestM (negW p.lim) (cornersM (dualM p 1) p.rows.length))).1.length uy,.slice none 0 0,rfl,hs.mem.fr.toBelow,y1.1,x1.1,IntsAt.nil _,fun k hk=>?_⟩
      rcases hk with hk|hk|hk
      · exact⟨y1.2 k hk,y2 k hk⟩
      · exact⟨x1.2 k hk,x2 k hk⟩
      · exact (nil_sb hk).elim
    ·
      intro c c' j hj h
      have hj:j<13:=hj
      rcases j with _|_|_|_|_|_|_|_|_|_|_|_|_|j
      all_goals first|rfl|(show some _=some _;(try rw[h 1 (.inl rfl)]);(try rw[h 1 (.inr ⟨rfl,rfl⟩)]);(try rw[h 3 (.inl rfl)]);(try rw[h 3 (.inr ⟨rfl,rfl⟩)]);(try rw[h 6 (.inl rfl)]);(try rw[h 6 (.inr ⟨rfl,rfl⟩)]);done)|exact absurd hj (by omega)
  ·
    intro c c' j hj h
    have hj:j<13:=hj
    rcases j with _|_|_|_|_|_|_|_|_|_|_|_|_|j
    all_goals first|rfl|(show some _=some _;(try rw[h 1 (.inl rfl)]);(try rw[h 1 (.inr ⟨rfl,rfl⟩)]);(try rw[h 3 (.inl rfl)]);(try rw[h 3 (.inr ⟨rfl,rfl⟩)]);(try rw[h 6 (.inl rfl)]);(try rw[h 6 (.inr ⟨rfl,rfl⟩)]);done)|exact absurd hj (by omega)
end Go.Proofs.Ytafhnfcahhlanaa
namespace Go.Proofs.Ytafhnfcahhlanaa
open Go.Sx Go.RowKit
def RatAt (w:World) (v:Value) (r:Rat):Prop:=∃nv,v=.agg #[nv,I r.2]∧IntsAt w nv r.1
structure Good (p:Prob):Prop where
  n0:0<p.obj.length
  n3:p.obj.length≤3
  m4:p.rows.length≤4
  ll:p.lim.length=p.rows.length
  rl:∀r∈p.rows,r.length=p.obj.length
theorem good_of {p:Prob} (h:checkM p=0):Good p:=let ⟨a,b,c,d,e⟩:=check_ok h;⟨a,b,c,d,e⟩
theorem intsAt_row {w:World} {A:Option Addr} {n c:Nat} {l:List Int} (h:IntsAt w (.slice A n c) l):n=l.length∧RdRow w A n 1 (elI l):=by
  obtain⟨A',c',e,h1,_⟩:=h
  injection e with e1 e2 e3
  subst e1;subst e2
  exact⟨rfl,h1⟩
def feasM (p:Prob) (r:Rat):Bool:=((r.1.length:Int)==(p.obj.length:Int))&&inM r.1 r.2&&keepsM (primalM p 1) r.1 r.2
theorem feasible_any (p:Prob) (pv rv:Value) (vs0:Nat→Value) (r:Rat) (w:World) (hp:ProbAt w pv p vs0) (hg:Good p) (hr:RatAt w rv r) (hrl:r.1.length≤100000):
    Calls Try.prog 54 #[pv,rv] w fun e w'=>e=.returned (.bool (feasM p r))∧Below w.heap.size w w':=by
  have hp0:=hp
  obtain⟨n0,n3,m4,hll,hrw⟩:=hg
  obtain⟨ov,rv2,lv,rfl,⟨Ao,co,rfl,ho,hoc⟩,⟨Ar,cr,rfl,hrr,hrc,hri⟩,⟨Al,cl,rfl,hl,hlc⟩⟩:=hp
  obtain⟨nv,rfl,⟨Ax,cx,rfl,hAx,hcx⟩⟩:=hr
  obtain⟨L1,hL1⟩:∃L1,L1=primalM p 1:=⟨_,rfl⟩
  refine enterSay [] [.agg [.k (.slice Ao p.obj.length co),.k (.slice Ar p.rows.length cr),.k (.slice Al p.lim.length cl)],.agg [.k (.slice Ax r.1.length cx),.k (I r.2)]] [] Try.func54 rfl 25 Try.ntmps54 rfl rfl ⟨⟨trivial,trivial,trivial,trivial⟩,⟨trivial,trivial,trivial⟩,trivial⟩ trivial ?_
  refine G.seqR tfine rfl trivial ?_
  refine G.seq ?_
  obtain⟨cb,hcb⟩:∃cb,cb=(((r.1.length:Int)==(p.obj.length:Int))&&inM r.1 r.2):=⟨_,rfl⟩
  apply G.drawC (ch:=fun j=>match j with|13=>some (sayG 813 11 true (((r.1.length:Int)==(p.obj.length:Int))&&inM r.1 r.2) (fun u=>.c (.k (slV (primalM p 1).length u))) (fun u=>u.2) (conR (primalM p 1)))|_=>none) (cls:=[0,1,3,0,8,24,63,127,255,511,1023,2047,4095,8191,4095,20479,4095,69631,262143,524287,1048575]) (X:=[(13,813)]) hmix rfl rfl rfl
  · intro c
    refine GC.more tfine 0 rfl rfl rfl ?_ ?_
    · first|trivial|(simp[AllP,condB];done)|(simp only[AllP];and_intros<;>first|trivial|decide|omega)|(simp[AllP,condB];intros;and_intros<;>first|assumption|omega)|(simp[AllP,condB];intros;simp_all;done)
    refine GC.step 9 rfl rfl (Steps.callGuard (v:=.bool (inM r.1 r.2)) rfl rfl rfl ⟨fun h=>h,trivial⟩ rfl rfl (fun args w=>Try.call70 args w) rfl (fun hct m' hle ρ w1 hs hok=>in_any Ax cx r.1 r.2 w1 (hAx.below hs.fr.toBelow) (by omega))) rfl ?_
    refine GC.more tfine 10 rfl rfl rfl ?_ ?_
    · first|trivial|(simp[AllP,condB];done)|(simp only[AllP];and_intros<;>first|trivial|decide|omega)|(simp[AllP,condB];intros;and_intros<;>first|assumption|omega)|(simp[AllP,condB];intros;simp_all;done)
    refine GC.choice 13 rfl _ rfl (StepsC.callSayG 813 (fun u=>.c (.k (slV (primalM p 1).length u))) (fun u=>u.2) (conR (primalM p 1)) rfl rfl ⟨fun h=>h,trivial⟩ rfl rfl rfl rfl (fun args w=>Try.call34 args w) (fun u ρ m=>⟨trivial,rfl⟩) (fun hct m' hle ρ w1 hs hok=>?_)) rfl sayG_nm rfl ?_
    · exact primal_cho p _ vs0 1 w1 (hp0.below hs.fr.toBelow) n0 (by omega) (by omega) hll hrw
    refine GC.more tfine 14 rfl rfl rfl ?_ ?_
    · first|trivial|(simp[AllP,condB];done)|(simp only[AllP];and_intros<;>first|trivial|decide|omega)|(simp[AllP,condB];intros;and_intros<;>first|assumption|omega)|(simp[AllP,condB];intros;simp_all;done)
    refine GC.step 18 rfl rfl (Steps.callGuard (v:=.bool (keepsM (primalM p 1) r.1 r.2)) rfl rfl rfl ⟨fun h=>h,fun h=>h,fun h=>h,trivial⟩ rfl rfl (fun args w=>Try.call78 args w) rfl (fun hct m' hle ρ w1 hs hok=>?_)) rfl ?_
    · obtain⟨us,hc,_⟩:=(hs.ok 813 _ (hle.at rfl)).1 hct
      have hln:r.1.length=p.obj.length:=by
        have h:((r.1.length:Int)==(p.obj.length:Int))=true:=by
          revert hct
          cases ((r.1.length:Int)==(p.obj.length:Int)) with
          |true=>intro _;rfl
          |false=>intro h;cases h
        have h:(r.1.length:Int)=(p.obj.length:Int):=by simpa using h
        omega
      exact keeps_any (slV (primalM p 1).length (c 13)) (primalM p 1) us Ax cx r.1 r.2 w1 hc (hAx.below hs.fr.toBelow) (fun i hi=>by rw[primalM_rows p 1 hrw _ (cAt_mem hi),hln];exact Nat.le_refl _) hrl (by rw[primalM_len];omega)
    refine GC.more tfine 19 rfl rfl rfl ?_ ?_
    · first|trivial|(simp[AllP,condB];done)|(simp only[AllP];and_intros<;>first|trivial|decide|omega)|(simp[AllP,condB];intros;and_intros<;>first|assumption|omega)|(simp[AllP,condB];intros;simp_all;done)
    refine GC.nil ?_
    exact G.ret (retK.plain tfine rfl rfl)
  ·
    intro c c' j hj h
    have hj:j<21:=hj
    rcases j with _|_|_|_|_|_|_|_|_|_|_|_|_|_|_|_|_|_|_|_|_|j
    all_goals first|rfl|(show some _=some _;(try rw[h 13 (.inl rfl)]);(try rw[h 13 (.inr ⟨rfl,rfl⟩)]);done)|exact absurd hj (by omega)
def facM (p:Prob) (f:Int) (r:Rat):Bool:=((r.1.length:Int)==(p.rows.length:Int))&&inM r.1 r.2&&keepsM (dualM p f) r.1 r.2
theorem factors_any (p:Prob) (pv rv:Value) (vs0:Nat→Value) (f:Int) (r:Rat) (w:World) (hp:ProbAt w pv p vs0) (hg:Good p) (hr:RatAt w rv r) (hrl:r.1.length≤100000):
    Calls Try.prog 55 #[pv,rv,I f] w fun e w'=>e=.returned (.bool (facM p f r))∧Below w.heap.size w w':=by
  have hp0:=hp
  obtain⟨n0,n3,m4,hll,hrw⟩:=hg
  obtain⟨ov,rv2,lv,rfl,⟨Ao,co,rfl,ho,hoc⟩,⟨Ar,cr,rfl,hrr,hrc,hri⟩,⟨Al,cl,rfl,hl,hlc⟩⟩:=hp
  obtain⟨nv,rfl,⟨Ax,cx,rfl,hAx,hcx⟩⟩:=hr
  refine enterSay [] [.agg [.k (.slice Ao p.obj.length co),.k (.slice Ar p.rows.length cr),.k (.slice Al p.lim.length cl)],.agg [.k (.slice Ax r.1.length cx),.k (I r.2)],.c (.k (I f))] [] Try.func55 rfl 28 Try.ntmps55 rfl rfl ⟨⟨trivial,trivial,trivial,trivial⟩,⟨trivial,trivial,trivial⟩,trivial,trivial⟩ trivial ?_
  refine G.seqR tfine rfl trivial ?_
  refine G.seq ?_
  apply G.drawC (ch:=fun j=>match j with|14=>some (sayG 814 11 true (((r.1.length:Int)==(p.rows.length:Int))&&inM r.1 r.2) (fun u=>.c (.k (slV (dualM p f).length u))) (fun u=>u.2) (conR (dualM p f)))|_=>none) (cls:=[0,1,3,0,8,24,63,127,255,511,1023,2047,4095,4095,16383,4095,36863,4095,135167,524287,1048575,2097151]) (X:=[(14,814)]) hmix rfl rfl rfl
  · intro c
    refine GC.more tfine 0 rfl rfl rfl ?_ ?_
    · first|trivial|(simp[AllP,condB];done)|(simp only[AllP];and_intros<;>first|trivial|decide|omega)|(simp[AllP,condB];intros;and_intros<;>first|assumption|omega)|(simp[AllP,condB];intros;simp_all;done)
    refine GC.step 9 rfl rfl (Steps.callGuard (v:=.bool (inM r.1 r.2)) rfl rfl rfl ⟨fun h=>h,trivial⟩ rfl rfl (fun args w=>Try.call70 args w) rfl (fun hct m' hle ρ w1 hs hok=>in_any Ax cx r.1 r.2 w1 (hAx.below hs.fr.toBelow) (by omega))) rfl ?_
    refine GC.more tfine 10 rfl rfl rfl ?_ ?_
    · first|trivial|(simp[AllP,condB];done)|(simp only[AllP];and_intros<;>first|trivial|decide|omega)|(simp[AllP,condB];intros;and_intros<;>first|assumption|omega)|(simp[AllP,condB];intros;simp_all;done)
    refine GC.choice 14 rfl _ rfl (StepsC.callSayG 814 (fun u=>.c (.k (slV (dualM p f).length u))) (fun u=>u.2) (conR (dualM p f)) rfl rfl ⟨fun h=>h,fun h=>h,trivial⟩ rfl rfl rfl rfl (fun args w=>Try.call37 args w) (fun u ρ m=>⟨trivial,rfl⟩) (fun hct m' hle ρ w1 hs hok=>?_)) rfl sayG_nm rfl ?_
    · exact dual_cho p _ vs0 f w1 (hp0.below hs.fr.toBelow) n0 (by omega) (by omega) hrw
    refine GC.more tfine 15 rfl rfl rfl ?_ ?_
    · first|trivial|(simp[AllP,condB];done)|(simp only[AllP];and_intros<;>first|trivial|decide|omega)|(simp[AllP,condB];intros;and_intros<;>first|assumption|omega)|(simp[AllP,condB];intros;simp_all;done)
    refine GC.step 19 rfl rfl (Steps.callGuard (v:=.bool (keepsM (dualM p f) r.1 r.2)) rfl rfl rfl ⟨fun h=>h,fun h=>h,fun h=>h,trivial⟩ rfl rfl (fun args w=>Try.call78 args w) rfl (fun hct m' hle ρ w1 hs hok=>?_)) rfl ?_
    · obtain⟨us,hc,_⟩:=(hs.ok 814 _ (hle.at rfl)).1 hct
      have hln:r.1.length=p.rows.length:=by
        have h:((r.1.length:Int)==(p.rows.length:Int))=true:=by
          revert hct
          cases ((r.1.length:Int)==(p.rows.length:Int)) with
          |true=>intro _;rfl
          |false=>intro h;cases h
        have h:(r.1.length:Int)=(p.rows.length:Int):=by simpa using h
        omega
      exact keeps_any (slV (dualM p f).length (c 14)) (dualM p f) us Ax cx r.1 r.2 w1 hc (hAx.below hs.fr.toBelow) (fun i hi=>by rw[dualM_rows p f _ (cAt_mem hi),hln];exact Nat.le_refl _) hrl (by rw[dualM_len];omega)
    refine GC.more tfine 20 rfl rfl rfl ?_ ?_
    · first|trivial|(simp[AllP,condB];done)|(simp only[AllP];and_intros<;>first|trivial|decide|omega)|(simp[AllP,condB];intros;and_intros<;>first|assumption|omega)|(simp[AllP,condB];intros;simp_all;done)
    refine GC.nil ?_
    exact G.ret (retK.plain tfine rfl rfl)
  ·
    intro c c' j hj h
    have hj:j<22:=hj
    rcases j with _|_|_|_|_|_|_|_|_|_|_|_|_|_|_|_|_|_|_|_|_|_|j
    all_goals first|rfl|(show some _=some _;(try rw[h 14 (.inl rfl)]);(try rw[h 14 (.inr ⟨rfl,rfl⟩)]);done)|exact absurd hj (by omega)
def noneM (r:Rat):Bool:=((r.1.length:Int)==0)&&(r.2==0)
theorem none_any (rv:Value) (r:Rat) (w:World) (hr:RatAt w rv r):Calls Try.prog 57 #[rv] w fun e w'=>e=.returned (.bool (noneM r))∧Below w.heap.size w w':=by
  obtain⟨nv,rfl,⟨Ax,cx,rfl,hAx,hcx⟩⟩:=hr
  refine enterSay [] [.agg [.k (.slice Ax r.1.length cx),.k (I r.2)]] [] Try.func57 rfl 12 Try.ntmps57 rfl rfl ⟨⟨trivial,trivial,trivial⟩,trivial⟩ trivial ?_
  refine G.seqR tfine rfl trivial ?_
  refine G.seqR tfine rfl ?_ ?_
  · first|trivial|(simp[AllP,condB];done)|(simp only[AllP];and_intros<;>first|trivial|decide|omega)|(simp[AllP,condB];intros;and_intros<;>first|assumption|omega)|(simp[AllP,condB];intros;simp_all;done)
  exact G.ret (retK.plain tfine rfl rfl)
def endM (p:Prob) (d:List Int):Bool:=((d.length:Int)==(p.obj.length:Int))&&inM d 1&&keepsM (primalM p 0) d 1&&decide (dotL d p.obj>0)
theorem endless_any (p:Prob) (pv dv:Value) (vs0:Nat→Value) (d:List Int) (w:World) (hp:ProbAt w pv p vs0) (hg:Good p) (hd:IntsAt w dv d) (hdl:d.length≤100000):
    Calls Try.prog 58 #[pv,dv] w fun e w'=>e=.returned (.bool (endM p d))∧Below w.heap.size w w':=by
  have hp0:=hp
  obtain⟨n0,n3,m4,hll,hrw⟩:=hg
  obtain⟨ov,rv2,lv,rfl,⟨Ao,co,rfl,ho,hoc⟩,⟨Ar,cr,rfl,hrr,hrc,hri⟩,⟨Al,cl,rfl,hl,hlc⟩⟩:=hp
  obtain⟨Ax,cx,rfl,hAx,hcx⟩:=hd
  refine enterSay [] [.agg [.k (.slice Ao p.obj.length co),.k (.slice Ar p.rows.length cr),.k (.slice Al p.lim.length cl)],.c (.k (.slice Ax d.length cx))] [] Try.func58 rfl 29 Try.ntmps58 rfl rfl ⟨⟨trivial,trivial,trivial,trivial⟩,trivial,trivial⟩ trivial ?_
  refine G.seqR tfine rfl trivial ?_
  refine G.seqC tfine rfl ?_ ?_
  · first|trivial|(simp[AllP,condB];done)|(simp only[AllP];and_intros<;>first|trivial|decide|omega)|(simp[AllP,condB];intros;and_intros<;>first|assumption|omega)|(simp[AllP,condB];intros;simp_all;done)
  refine GO.callGuard (.bool (inM d 1)) rfl rfl rfl ⟨fun h=>h,trivial⟩ rfl rfl (fun args w=>Try.call70 args w) rfl (fun hct m' hle ρ w1 hs hok=>in_any Ax cx d 1 w1 (hAx.below hs.fr.toBelow) (by omega)) ?_
  refine GO.more tfine rfl ?_ ?_
  · first|trivial|(simp[AllP,condB];done)|(simp only[AllP];and_intros<;>first|trivial|decide|omega)|(simp[AllP,condB];intros;and_intros<;>first|assumption|omega)|(simp[AllP,condB];intros;simp_all;done)
  refine GO.choice (StepsC.callSayG 813 (fun u=>.c (.k (slV (primalM p 0).length u))) (fun u=>u.2) (conR (primalM p 0)) rfl rfl ⟨fun h=>h,trivial⟩ rfl rfl rfl rfl (fun args w=>Try.call34 args w) (fun u ρ m=>⟨trivial,rfl⟩) (fun hct m' hle ρ w1 hs hok=>primal_cho p _ vs0 0 w1 (hp0.below hs.fr.toBelow) n0 (by omega) (by omega) hll hrw)) fun u=>?_
  refine GO.more tfine rfl ?_ ?_
  · first|trivial|(simp[AllP,condB];done)|(simp only[AllP];and_intros<;>first|trivial|decide|omega)|(simp[AllP,condB];intros;and_intros<;>first|assumption|omega)|(simp[AllP,condB];intros;simp_all;done)
  have hlen:∀{b:Bool},(((d.length:Int)==(p.obj.length:Int))&&b)=true→d.length=p.obj.length:=fun {b} h=>by
    have h:(d.length:Int)=(p.obj.length:Int)∧b=true:=by simpa using h
    omega
  refine GO.callGuard (.bool (keepsM (primalM p 0) d 1)) rfl rfl rfl ⟨fun h=>h,fun h=>h,trivial⟩ rfl rfl (fun args w=>Try.call78 args w) rfl (fun hct m' hle ρ w1 hs hok=>?_) ?_
  · obtain⟨us,hc,_⟩:=(hs.ok 813 _ (hle.at rfl)).1 hct
    have hln:=hlen hct
    exact keeps_any (slV (primalM p 0).length u) (primalM p 0) us Ax cx d 1 w1 hc (hAx.below hs.fr.toBelow) (fun i hi=>by rw[primalM_rows p 0 hrw _ (cAt_mem hi),hln];exact Nat.le_refl _) hdl (by rw[primalM_len];omega)
  refine GO.more tfine rfl ?_ ?_
  · first|trivial|(simp[AllP,condB];done)|(simp only[AllP];and_intros<;>first|trivial|decide|omega)|(simp[AllP,condB];intros;and_intros<;>first|assumption|omega)|(simp[AllP,condB];intros;simp_all;done)
  refine GO.callGuard (I (dotL d p.obj)) rfl rfl rfl ⟨fun h=>h,fun h=>h,trivial⟩ rfl rfl (fun args w=>Try.call39 args w) rfl (fun hct m' hle ρ w1 hs hok=>?_) ?_
  · have hln:d.length=p.obj.length:=by
      have hct:(((d.length:Int)==(p.obj.length:Int))&&inM d 1&&keepsM (primalM p 0) d 1)=true:=hct
      rw[Bool.and_assoc]at hct
      exact hlen hct
    exact dot_any Ax Ao cx co d p.obj w1 (hAx.below hs.fr.toBelow) (ho.below hs.fr.toBelow) (by omega) (by omega)
  refine GO.fin tfine rfl ?_ ?_
  · first|trivial|(simp[AllP,condB];done)|(simp only[AllP];and_intros<;>first|trivial|decide|omega)|(simp[AllP,condB];intros;and_intros<;>first|assumption|omega)|(simp[AllP,condB];intros;simp_all;done)
  exact G.ret (retK.plain tfine rfl rfl)
def valueL (l:List Int) (r:Rat):List Int:=lowL [dotL l r.1] r.2
def valueO (l:List Int) (r:Rat):Int:=lowO [dotL l r.1] r.2
theorem value_any (l:List Int) (r:Rat) (lv rv:Value) (w:World) (hl:IntsAt w lv l) (hr:RatAt w rv r) (hlr:l.length≤r.1.length) (hrl:r.1.length≤100000) (hg:gL [dotL l r.1] r.2≠0):
    Calls Try.prog 56 #[lv,rv] w fun e w'=>Ans w w' [.agg [.r 1 1 (elI (valueL l r)),.p (I (valueO l r))]] e∧Below w.heap.size w w':=by
  obtain⟨Al,cl,rfl,hAl,_⟩:=hl
  obtain⟨nv,rfl,⟨Ax,cx,rfl,hAx,hcx⟩⟩:=hr
  refine enterAns tfine _ Try.func56 rfl 14 Try.ntmps56 [.c (.inp 1000 Al l.length cl),.agg [.inp 1001 Ax r.1.length cx,.k (I r.2)]] [⟨1000,Al,1,l.length,elI l⟩,⟨1001,Ax,1,r.1.length,elI r.1⟩] rfl rfl ⟨hAl,hAx,trivial⟩ ⟨.inl ⟨rfl,rfl,rfl⟩,⟨.inr ⟨nx rfl,.inl ⟨rfl,rfl,rfl⟩⟩,trivial,trivial⟩,trivial⟩ ?_
  refine G.seqR tfine rfl trivial ?_
  refine G.seqDraw hmix [0,0,2,7,15,0,32,127,255,511] [(8,813),(8,863),(9,4)] rfl rfl rfl ?_
  refine GD.more tfine 0 rfl rfl trivial ?_
  refine GD.call (v:=I (dotL l r.1)) 3 rfl rfl rfl rfl rfl (fun args w=>Try.call39 args w) (fun m' hle ρ w1 hs hok=>dot_any Al Ax cl cx l r.1 w1 (hAl.below hs.fr.toBelow) (hAx.below hs.fr.toBelow) hlr (by omega)) ?_
  refine GD.more tfine 4 rfl rfl trivial ?_
  refine GD.callAns [.agg [.r 1 1 (elI (valueL l r)),.p (I (valueO l r))]] [813] 8 rfl rfl rfl rfl rfl ⟨rfl,rfl,rfl,trivial⟩ rfl (fun args w=>Try.call71 args w) (fun m' hle ρ w1 hs hok=>?_) ?_
  · have k9:=hs.ok 9 _ (hle.at rfl)
    have h9:w1.heap[(ρ 9).1]?=some (.cells #[I (dotL l r.1)] 3 (0,0)):=by simpa[AC.conc] using k9.2.2.1
    have hrd:RdRow w1 (some ⟨(ρ 9).1,(ρ 9).2+0*1,none⟩) 1 1 (elI [dotL l r.1]):=fun _=>by
      refine⟨(ρ 9).1,0,by rw[k9.1],lt_of_heap h9,fun i hi=>⟨rfl,fun j hj=>?_⟩⟩
      have e1:i=0:=by omega
      have e2:j=0:=by omega
      subst e1;subst e2
      rw[cell_of_heap h9];rfl
    exact low_any _ 1 [dotL l r.1] r.2 w1 hrd (by simp) hg
  refine GD.fin tfine 9 rfl rfl trivial ?_
  exact G.ret (endAns.ret ⟨⟨_,rfl,⟨⟨rfl,Nat.le_refl _,1,_,rfl,Nat.le_refl _,fun i hi=>rfl⟩,rfl,trivial⟩⟩,trivial⟩)
end Go.Proofs.Ytafhnfcahhlanaa
namespace Go.Proofs.Ytafhnfcahhlanaa
open Go.Sx Go.RowKit
def SolAt (w:World) (v:Value) (s:Sol):Prop:=∃v1 v2 v3,v=.agg #[I s.kind,v1,I s.at_.2,v2,I s.proof.2,v3]∧IntsAt w v1 s.at_.1∧IntsAt w v2 s.proof.1∧IntsAt w v3 s.dir
def okM (p:Prob) (s:Sol):Bool:=
  if s.kind=1 then (feasM p s.at_&&facM p 1 s.proof&&((s.dir.length:Int)==0))&&(((valueL p.obj s.at_).getD 0 0==(valueL p.lim s.proof).getD 0 0)&&(valueO p.obj s.at_==valueO p.lim s.proof))
  else if s.kind=2 then facM p 0 s.proof&&decide (dotL p.lim s.proof.1<0)&&noneM s.at_&&((s.dir.length:Int)==0)
  else if s.kind=3 then feasM p s.at_&&endM p s.dir&&noneM s.proof
  else false
def verifyM (p:Prob) (s:Sol):Int:=if checkM p≠0 then 1 else if okM p s=true then 0 else 14
theorem divM_pos (l:List Int) (x:Int) (h:1≤x) (h2:x≤9223372036854775807):divM (l++[x])≠0:=by
  have hab:absW x=x:=by
    unfold absW
    have:W (0-x)=0-x:=IntWalk.i64_in _ (by omega)
    rw[this,if_neg (by omega)]
  unfold divM
  rw[List.length_append,List.length_singleton,divN]
  have e:(l++[x]).getD l.length 0=x:=by simp[List.getD_eq_getElem?_getD]
  rw[e,hab]
  intro h0
  have:=Nat.eq_zero_of_gcd_eq_zero_right h0
  omega
theorem inM_over {l:List Int} {o:Int} (h:inM l o=true):1≤o∧o≤35184372088832:=by
  unfold inM at h
  simp only[Bool.and_eq_true,decide_eq_true_eq]at h
  exact⟨h.1.1,h.1.2⟩
theorem gL_ne (l:List Int) (o:Int) (h:1≤o) (h2:o≤35184372088832):gL l o≠0:=by
  unfold gL
  have:=divM_pos l o h (by omega)
  intro h0
  exact this (by exact_mod_cast h0)
theorem feas_len {p:Prob} {r:Rat} (h:feasM p r=true):r.1.length=p.obj.length∧1≤r.2∧r.2≤35184372088832:=by
  unfold feasM at h
  simp only[Bool.and_eq_true,beq_iff_eq]at h
  obtain⟨h1,h2⟩:=inM_over h.1.2
  exact⟨by omega,h1,h2⟩
theorem fac_len {p:Prob} {f:Int} {r:Rat} (h:facM p f r=true):r.1.length=p.rows.length∧1≤r.2∧r.2≤35184372088832:=by
  unfold facM at h
  simp only[Bool.and_eq_true,beq_iff_eq]at h
  obtain⟨h1,h2⟩:=inM_over h.1.2
  exact⟨by omega,h1,h2⟩
theorem verify_any (p:Prob) (pv sv:Value) (vs0:Nat→Value) (s:Sol) (w:World) (hp:ProbAt w pv p vs0) (hs:SolAt w sv s) (h1:p.obj.length≤100000) (h2:p.rows.length≤100000) (h3:p.lim.length≤100000) (h4:∀r∈p.rows,r.length≤100000)
    (g1:s.at_.1.length≤100000) (g2:s.proof.1.length≤100000) (g3:s.dir.length≤100000):
    Calls Try.prog 17 #[pv,sv] w fun e w'=>e=.returned (I (verifyM p s))∧Below w.heap.size w w':=by
  have hp0:=hp
  obtain⟨ov,rv,lv,rfl,⟨Ao,co,rfl,ho,hoc⟩,⟨Ar,cr,rfl,hr,hrc,hri⟩,⟨Al,cl,rfl,hl,hlc⟩⟩:=hp
  obtain⟨v1,v2,v3,rfl,⟨A1,c1,rfl,ha1,ha1c⟩,⟨A2,c2,rfl,ha2,ha2c⟩,⟨A3,c3,rfl,ha3,ha3c⟩⟩:=hs
  have r1:∀{w1},Below w.heap.size w w1→RatAt w1 (.agg #[.slice A1 s.at_.1.length c1,I s.at_.2]) s.at_:=fun hb=>⟨_,rfl,⟨A1,c1,rfl,ha1.below hb,ha1c⟩⟩
  have r2:∀{w1},Below w.heap.size w w1→RatAt w1 (.agg #[.slice A2 s.proof.1.length c2,I s.proof.2]) s.proof:=fun hb=>⟨_,rfl,⟨A2,c2,rfl,ha2.below hb,ha2c⟩⟩
  refine enterSay [] [.agg [.k (.slice Ao p.obj.length co),.k (.slice Ar p.rows.length cr),.k (.slice Al p.lim.length cl)],.agg [.k (I s.kind),.k (.slice A1 s.at_.1.length c1),.k (I s.at_.2),.k (.slice A2 s.proof.1.length c2),.k (I s.proof.2),.k (.slice A3 s.dir.length c3)]] [] Try.func17 rfl 103 Try.ntmps17 rfl rfl ⟨⟨trivial,trivial,trivial,trivial⟩,⟨trivial,trivial,trivial,trivial,trivial,trivial,trivial⟩,trivial⟩ trivial ?_
  refine G.seqR tfine rfl trivial ?_
  refine G.seq ?_
  refine G.seqC tfine rfl trivial ?_
  refine GO.callPlain (v:=I (checkM p)) rfl rfl rfl rfl (fun args w=>Try.call13 args w) (fun ρ w1 hs hok=>check_any p _ vs0 w1 (hp0.below hs.fr.toBelow) h1 h2 h3 h4) ?_
  refine GO.fin tfine rfl trivial ?_
  refine G.cond (b:=checkM p != 0) rfl (fun h=>?_) (fun h=>?_)
  · have h:checkM p≠0:=by simpa using h
    refine G.seqR tfine rfl trivial ?_
    exact G.ret (retK.plain tfine rfl (by rw[verifyM,if_pos h]))
  have hc0:checkM p=0:=by simpa using h
  have hgood:=good_of hc0
  refine G.skip ?_
  refine G.seqR tfine rfl trivial ?_
  refine G.join (fun b:Bool=>St.of [(5,.v (.c (.k (.bool b))))] []) (fun b=>b=okM p s) ?_ ?_
  · refine G.seqR tfine rfl trivial ?_
    refine G.block ?_
    refine G.seqR tfine rfl trivial ?_
    refine G.cond (b:=s.kind==1) rfl (fun hk=>?_) (fun hk=>?_)
    · have hk:s.kind=1:=by simpa using hk
      refine G.seqC tfine rfl trivial ?_
      refine GO.callPlain (v:=.bool (feasM p s.at_)) rfl rfl rfl rfl (fun args w=>Try.call54 args w) (fun ρ w1 hs hok=>feasible_any p _ _ vs0 s.at_ w1 (hp0.below hs.fr.toBelow) hgood (r1 hs.fr.toBelow) g1) ?_
      refine GO.more tfine rfl ?_ ?_
      · first|trivial|(simp[AllP,condB];done)|(simp only[AllP];and_intros<;>first|trivial|decide|omega)|(simp[AllP,condB];intros;and_intros<;>first|assumption|omega)|(simp[AllP,condB];intros;simp_all;done)
      refine GO.callGuard (.bool (facM p 1 s.proof)) rfl rfl rfl ⟨fun h=>h,fun h=>h,trivial⟩ rfl rfl (fun args w=>Try.call55 args w) rfl (fun hct m' hle ρ w1 hs hok=>factors_any p _ _ vs0 1 s.proof w1 (hp0.below hs.fr.toBelow) hgood (r2 hs.fr.toBelow) g2) ?_
      refine GO.fin tfine rfl ?_ ?_
      · first|trivial|(simp[AllP,condB];done)|(simp only[AllP];and_intros<;>first|trivial|decide|omega)|(simp[AllP,condB];intros;and_intros<;>first|assumption|omega)|(simp[AllP,condB];intros;simp_all;done)
      refine G.seqR tfine rfl trivial ?_
      obtain⟨b1,hb1⟩:∃b1,b1=(feasM p s.at_&&facM p 1 s.proof&&((s.dir.length:Int)==0)):=⟨_,rfl⟩
      refine G.cond (b:=b1) (by rw[hb1];rfl) (fun hb=>?_) (fun hb=>?_)
      · have hb':=hb
        rw[hb1]at hb'
        simp only[Bool.and_eq_true]at hb'
        obtain⟨l1,o1,o1'⟩:=feas_len hb'.1.1
        obtain⟨l2,o2,o2'⟩:=fac_len hb'.1.2
        refine G.seqDraw hmix [0,1,0,4,15,0,32,0,128,511,0,0,4095,8191] [(4,813),(4,863),(9,815),(9,865),(12,6),(13,7)] rfl rfl rfl ?_
        refine GD.more tfine 0 rfl rfl trivial ?_
        refine GD.callAns [.agg [.r 1 1 (elI (valueL p.obj s.at_)),.p (I (valueO p.obj s.at_))]] [813] 4 rfl rfl rfl rfl rfl ⟨rfl,rfl,rfl,trivial⟩ rfl (fun args w=>Try.call56 args w) (fun m' hle ρ w1 hs hok=>value_any p.obj s.at_ _ _ w1 ⟨Ao,co,rfl,ho.below hs.fr.toBelow,hoc⟩ (r1 hs.fr.toBelow) (by omega) g1 (gL_ne _ _ o1 o1')) ?_
        refine GD.more tfine 5 rfl rfl trivial ?_
        refine GD.callAns [.agg [.r 1 1 (elI (valueL p.lim s.proof)),.p (I (valueO p.lim s.proof))]] [815] 9 rfl rfl rfl rfl rfl ⟨rfl,rfl,rfl,trivial⟩ rfl (fun args w=>Try.call56 args w) (fun m' hle ρ w1 hs hok=>value_any p.lim s.proof _ _ w1 ⟨Al,cl,rfl,hl.below hs.fr.toBelow,hlc⟩ (r2 hs.fr.toBelow) (by rw[hgood.ll];omega) g2 (gL_ne _ _ o2 o2')) ?_
        refine GD.fin tfine 10 rfl rfl trivial ?_
        refine G.regD tfine hmix [0,1,3,7,0,16,48,112,255,511,1023,2047,1023,5119,16383,32767,65535] [] rfl rfl rfl rfl ?_ ?_
        · first|trivial|(simp[AllP,condB];done)|(simp only[AllP];and_intros<;>first|trivial|decide|omega)|(simp[AllP,condB];intros;and_intros<;>first|assumption|omega)|(simp[AllP,condB];intros;simp_all;done)
        refine⟨_,?_,St.le_of rfl trivial ⟨rfl,trivial⟩⟩
        rw[okM,if_pos hk,←hb1,hb]
        rfl
      · refine G.skip ?_
        refine⟨b1,?_,St.le_of rfl trivial ⟨by rw[hb1];rfl,trivial⟩⟩
        rw[okM,if_pos hk,←hb1,hb]
        rfl
    have hk1:¬s.kind=1:=by simpa using hk
    refine G.seqR tfine rfl trivial ?_
    refine G.cond (b:=s.kind==2) rfl (fun hk=>?_) (fun hk=>?_)
    · have hk:s.kind=2:=by simpa using hk
      refine G.regC tfine rfl trivial ?_
      refine GO.callPlain (v:=.bool (facM p 0 s.proof)) rfl rfl rfl rfl (fun args w=>Try.call55 args w) (fun ρ w1 hs hok=>factors_any p _ _ vs0 0 s.proof w1 (hp0.below hs.fr.toBelow) hgood (r2 hs.fr.toBelow) g2) ?_
      refine GO.more tfine rfl ?_ ?_
      · first|trivial|(simp[AllP,condB];done)|(simp only[AllP];and_intros<;>first|trivial|decide|omega)|(simp[AllP,condB];intros;and_intros<;>first|assumption|omega)|(simp[AllP,condB];intros;simp_all;done)
      refine GO.callGuard (I (dotL p.lim s.proof.1)) rfl rfl rfl ⟨fun h=>h,fun h=>h,trivial⟩ rfl rfl (fun args w=>Try.call39 args w) rfl (fun hct m' hle ρ w1 hs hok=>?_) ?_
      · obtain⟨l2,_⟩:=fac_len (f:=0) (show facM p 0 s.proof=true from hct)
        exact dot_any Al A2 cl c2 p.lim s.proof.1 w1 (hl.below hs.fr.toBelow) (ha2.below hs.fr.toBelow) (by rw[hgood.ll];omega) (by omega)
      refine GO.more tfine rfl ?_ ?_
      · first|trivial|(simp[AllP,condB];done)|(simp only[AllP];and_intros<;>first|trivial|decide|omega)|(simp[AllP,condB];intros;and_intros<;>first|assumption|omega)|(simp[AllP,condB];intros;simp_all;done)
      refine GO.callGuard (.bool (noneM s.at_)) rfl rfl rfl ⟨fun h=>h,trivial⟩ rfl rfl (fun args w=>Try.call57 args w) rfl (fun hct m' hle ρ w1 hs hok=>none_any _ s.at_ w1 (r1 hs.fr.toBelow)) ?_
      refine GO.fin tfine rfl ?_ ?_
      · first|trivial|(simp[AllP,condB];done)|(simp only[AllP];and_intros<;>first|trivial|decide|omega)|(simp[AllP,condB];intros;and_intros<;>first|assumption|omega)|(simp[AllP,condB];intros;simp_all;done)
      refine⟨_,?_,St.le_of rfl trivial ⟨rfl,trivial⟩⟩
      rw[okM,if_neg hk1,if_pos hk]
    have hk2:¬s.kind=2:=by simpa using hk
    refine G.seqR tfine rfl trivial ?_
    refine G.cond (b:=s.kind==3) rfl (fun hk=>?_) (fun hk=>?_)
    · have hk:s.kind=3:=by simpa using hk
      refine G.regC tfine rfl trivial ?_
      refine GO.callPlain (v:=.bool (feasM p s.at_)) rfl rfl rfl rfl (fun args w=>Try.call54 args w) (fun ρ w1 hs hok=>feasible_any p _ _ vs0 s.at_ w1 (hp0.below hs.fr.toBelow) hgood (r1 hs.fr.toBelow) g1) ?_
      refine GO.more tfine rfl ?_ ?_
      · first|trivial|(simp[AllP,condB];done)|(simp only[AllP];and_intros<;>first|trivial|decide|omega)|(simp[AllP,condB];intros;and_intros<;>first|assumption|omega)|(simp[AllP,condB];intros;simp_all;done)
      refine GO.callGuard (.bool (endM p s.dir)) rfl rfl rfl ⟨fun h=>h,fun h=>h,trivial⟩ rfl rfl (fun args w=>Try.call58 args w) rfl (fun hct m' hle ρ w1 hs hok=>endless_any p _ _ vs0 s.dir w1 (hp0.below hs.fr.toBelow) hgood ⟨A3,c3,rfl,ha3.below hs.fr.toBelow,ha3c⟩ g3) ?_
      refine GO.more tfine rfl ?_ ?_
      · first|trivial|(simp[AllP,condB];done)|(simp only[AllP];and_intros<;>first|trivial|decide|omega)|(simp[AllP,condB];intros;and_intros<;>first|assumption|omega)|(simp[AllP,condB];intros;simp_all;done)
      refine GO.callGuard (.bool (noneM s.proof)) rfl rfl rfl ⟨fun h=>h,trivial⟩ rfl rfl (fun args w=>Try.call57 args w) rfl (fun hct m' hle ρ w1 hs hok=>none_any _ s.proof w1 (r2 hs.fr.toBelow)) ?_
      refine GO.fin tfine rfl ?_ ?_
      · first|trivial|(simp[AllP,condB];done)|(simp only[AllP];and_intros<;>first|trivial|decide|omega)|(simp[AllP,condB];intros;and_intros<;>first|assumption|omega)|(simp[AllP,condB];intros;simp_all;done)
      refine⟨_,?_,St.le_of rfl trivial ⟨rfl,trivial⟩⟩
      rw[okM,if_neg hk1,if_neg hk2,if_pos hk]
    have hk3:¬s.kind=3:=by simpa using hk
    refine G.skip ?_
    refine⟨false,?_,St.le_of rfl trivial ⟨rfl,trivial⟩⟩
    rw[okM,if_neg hk1,if_neg hk2,if_neg hk3]
  rintro b hb
  refine G.seq ?_
  refine G.seqR tfine rfl trivial ?_
  refine G.cond (b:=!b) rfl (fun h=>?_) (fun h=>?_)
  · refine G.seqR tfine rfl trivial ?_
    exact G.ret (retK.plain tfine rfl (by
      have:b=false:=by simpa using h
      rw[verifyM,if_neg (by rw[hc0];decide),if_neg (by rw[←hb,this];decide)]))
  refine G.skip ?_
  refine G.seqR tfine rfl trivial ?_
  exact G.ret (retK.plain tfine rfl (by
    have:b=true:=by simpa using h
    rw[verifyM,if_neg (by rw[hc0];decide),if_pos (by rw[←hb,this])]))
end Go.Proofs.Ytafhnfcahhlanaa
