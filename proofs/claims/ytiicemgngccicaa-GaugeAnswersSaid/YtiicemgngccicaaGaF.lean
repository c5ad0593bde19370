/- Chapter 15: rows of reports. -/
import Derived.Test.YtiicemgngccicaaGaE
set_option linter.unusedVariables false
set_option linter.unusedSimpArgs false
set_option maxRecDepth 8000
set_option maxHeartbeats 1000000
namespace Go.Proofs.Ytiicemgngccicaa
open Go.Sx Go.RowKit
structure Rep where
  d : Int
  p : Int
  h : Int
  s : Int
  vl : Int
  vh : Int
  al : Int
  ah : Int
def rep0 : Rep := ⟨0, 0, 0, 0, 0, 0, 0, 0⟩
def Rep.cs (r : Rep) : List Value := [I r.d, I r.p, I r.h, I r.s, I r.vl, I r.vh, I r.al, I r.ah]
def Rep.v (r : Rep) : Value := .agg #[I r.d, I r.p, I r.h, I r.s, I r.vl, I r.vh, I r.al, I r.ah]
def elR (l : List Rep) (i : Nat) : List Value := [I (l.getD i rep0).d, I (l.getD i rep0).p, I (l.getD i rep0).h, I (l.getD i rep0).s, I (l.getD i rep0).vl, I (l.getD i rep0).vh, I (l.getD i rep0).al, I (l.getD i rep0).ah]
theorem Below.join {w w1 w2 : World} (h : Below w.heap.size w w1) (h2 : Below w1.heap.size w1 w2) : Below w.heap.size w w2 := (Fr.below (Fr.of_below h) h2).toBelow
theorem indexFuncR_any (f : FuncId) (q : Rep → Bool) (p : Value) (hcf : ∀ args w, (callFunc f args).run Try.prog w = .ok (.enter f args) w)
    (A : Option Addr) (c : Nat) (l : List Rep) (w : World) (hf : ∀ w1, Below w.heap.size w w1 → ∀ v ∈ l, Calls Try.prog f #[Rep.v v, p] w1 fun e w' => e = .returned (.bool (q v)) ∧ Below w1.heap.size w1 w') (hl : RdRow w A l.length 8 (elR l)) (hm : l.length ≤ 4611686018427387904) :
    Calls Try.prog 51 #[.slice A l.length c, .func (.func f) #[] #[p]] w fun e w' => e = .returned (I (firstI (fun k => q (l.getD k rep0)) 0 l.length)) ∧ Below w.heap.size w w' := by
  refine enterPlain tfine Try.func51 rfl 19 Try.ntmps51 [.c (.inp 1000 A l.length c), .c (.k (.func (.func f) #[] #[p]))] [⟨1000, A, 8, l.length, elR l⟩] rfl rfl ⟨hl, trivial⟩ ⟨.inl ⟨rfl, rfl, rfl⟩, trivial, trivial⟩ ?_
  refine G.seqR tfine rfl trivial ?_
  refine G.seq (G.seqR tfine rfl trivial ?_)
  refine G.block (G.loop (fun k : Nat => St.of [(0, .v (.c (.inp 1000 A l.length c))), (1, .v (.c (.k (.func (.func f) #[] #[p])))), (7, .v (.c (.k (I l.length)))), (8, .v (.c (.k (I k))))] [(1000, .ro 8 l.length (elR l))])
    (fun k => k ≤ l.length ∧ firstI (fun k => q (l.getD k rep0)) 0 l.length = firstI (fun k => q (l.getD k rep0)) k (l.length - k)) (fun k => l.length - k) 0 ⟨by omega, by simp⟩ (St.le_of rfl ⟨⟨_, rfl, Blk.le_refl _⟩, trivial⟩ ⟨rfl, rfl, rfl, rfl, trivial⟩) ?_)
  rintro k ⟨hk, hfi⟩
  refine G.seqR tfine rfl trivial ?_
  refine G.seq (G.cond rfl (fun h => ?_) (fun h => ?_))
  rotate_left
  · have h := of_decide_eq_false h
    have : k = l.length := by omega
    subst this
    refine G.exit ?_
    refine G.seqR tfine rfl trivial ?_
    refine G.ret (endK.ret rfl ?_)
    rw [hfi]
    simp [firstI]
  have h := of_decide_eq_true h
  have hlt : k < l.length := by omega
  refine G.skip ?_
  refine G.seq (G.block ?_)
  refine G.seqR tfine rfl trivial ?_
  refine G.seqC tfine rfl ⟨by simpa using hlt, by omega, by omega, trivial⟩ ?_
  rw [Int.toNat_natCast]
  refine GO.callPlain rfl rfl rfl rfl hcf (fun ρ w1 hm _ => hf w1 hm.fr.toBelow (l.getD k rep0) (getD_mem hlt)) (GO.nil ?_)
  have hs : l.length - k = (l.length - (k + 1)) + 1 := by omega
  rw [hs, firstI] at hfi
  refine G.cond rfl (fun h2 => ?_) (fun h2 => ?_)
  · refine G.seqR tfine rfl trivial ?_
    refine G.ret (endK.ret rfl ?_)
    rw [hfi, if_pos h2]
  · refine G.skip ?_
    refine G.reg tfine rfl trivial ?_
    rw [IntWalk.i64_in _ (by omega)]
    rw [if_neg (by simpa using h2)] at hfi
    exact ⟨k + 1, ⟨by omega, hfi⟩, (by show l.length - (k + 1) < l.length - k; omega), St.le_of rfl ⟨⟨_, rfl, Blk.le_refl _⟩, trivial⟩ ⟨rfl, rfl, rfl, by simp [up, I], trivial⟩⟩
theorem containsFuncR_any (f : FuncId) (q : Rep → Bool) (p : Value) (hcf : ∀ args w, (callFunc f args).run Try.prog w = .ok (.enter f args) w)
    (A : Option Addr) (c : Nat) (l : List Rep) (w : World) (hf : ∀ w1, Below w.heap.size w w1 → ∀ v ∈ l, Calls Try.prog f #[Rep.v v, p] w1 fun e w' => e = .returned (.bool (q v)) ∧ Below w1.heap.size w1 w') (hl : RdRow w A l.length 8 (elR l)) (hm : l.length ≤ 4611686018427387904) :
    Calls Try.prog 25 #[.slice A l.length c, .func (.func f) #[] #[p]] w fun e w' => e = .returned (.bool (decide (firstI (fun k => q (l.getD k rep0)) 0 l.length ≥ 0))) ∧ Below w.heap.size w w' := by
  refine enterPlain tfine Try.func25 rfl 9 Try.ntmps25 [.c (.inp 1000 A l.length c), .c (.k (.func (.func f) #[] #[p]))] [⟨1000, A, 8, l.length, elR l⟩] rfl rfl ⟨hl, trivial⟩ ⟨.inl ⟨rfl, rfl, rfl⟩, trivial, trivial⟩ ?_
  refine G.seqR tfine rfl trivial ?_
  refine G.seqC tfine rfl trivial ?_
  refine GO.callPlain rfl rfl rfl rfl (fun args w => Try.call51 args w) (fun ρ w1 hs hok => indexFuncR_any f q p hcf A c l w1 (fun w2 h2 v hv => hf w2 (Below.join hs.fr.toBelow h2) v hv) (hs.row rfl (hok _ List.mem_cons_self)) hm) ?_
  refine GO.fin tfine rfl trivial ?_
  exact G.ret (endK.ret rfl rfl)
def okR (r : Rep) : Bool := gauge_Right r.d r.p r.h r.s r.vl r.vh r.al r.ah
theorem right_any (r : Rep) (w : World) : Calls Try.prog 18 #[Rep.v r] w fun e w' => e = .returned (.bool (okR r)) ∧ Below w.heap.size w w' := gauge_Right_any r.d r.p r.h r.s r.vl r.vh r.al r.ah w
theorem rights1_any (b : Bool) (r : Rep) (w : World) : Calls Try.prog 66 #[.bool b, Rep.v r] w fun e w' => e = .returned (.bool (b && okR r)) ∧ Below w.heap.size w w' := by
  refine enterPlain tfine Try.func66 rfl 10 Try.ntmps66 [.c (.k (.bool b)), .agg [.k (I r.d), .k (I r.p), .k (I r.h), .k (I r.s), .k (I r.vl), .k (I r.vh), .k (I r.al), .k (I r.ah)]] [] rfl rfl trivial ⟨trivial, ⟨trivial, trivial, trivial, trivial, trivial, trivial, trivial, trivial, trivial⟩, trivial⟩ ?_
  refine G.seqR tfine rfl trivial ?_
  refine G.seqC tfine rfl trivial ?_
  refine GO.callGuard (.bool (okR r)) rfl rfl rfl (by first | exact trivial | exact ⟨id, trivial⟩) rfl rfl (fun args w => Try.call18 args w) rfl (fun _ m' hle ρ w hs hok => right_any r w) ?_
  refine GO.fin tfine rfl ?_ ?_
  · simp [AllP, condB]
  exact G.ret (endK.ret rfl rfl)
theorem take_all {α : Type} (q : α → Bool) (l : List α) (k : Nat) (d : α) (h : k < l.length) : (l.take (k + 1)).all q = ((l.take k).all q && q (l.getD k d)) := by
  rw [List.take_succ_eq_append_getElem h, List.all_append, List.getD_eq_getElem?_getD, List.getElem?_eq_getElem h]
  simp
theorem foldB_any (A : Option Addr) (c : Nat) (l : List Rep) (w : World) (hl : RdRow w A l.length 8 (elR l)) (hm : l.length ≤ 4611686018427387904) :
    Calls Try.prog 65 #[.slice A l.length c, .bool true, .func (.func 66) #[] #[]] w fun e w' => e = .returned (.bool (l.all okR)) ∧ Below w.heap.size w w' := by
  refine enterPlain tfine Try.func65 rfl 21 Try.ntmps65 [.c (.inp 1000 A l.length c), .c (.k (.bool true)), .c (.k (.func (.func 66) #[] #[]))] [⟨1000, A, 8, l.length, elR l⟩] rfl rfl ⟨hl, trivial⟩ ⟨.inl ⟨rfl, rfl, rfl⟩, trivial, trivial, trivial⟩ ?_
  refine G.seqR tfine rfl trivial ?_
  refine G.seq (G.seqR tfine rfl trivial ?_)
  refine G.block (G.loop (fun k : Nat => St.of [(1, .v (.c (.k (.bool ((l.take k).all okR))))), (2, .v (.c (.k (.func (.func 66) #[] #[])))), (9, .v (.c (.inp 1000 A l.length c))), (10, .v (.c (.k (I l.length)))), (11, .v (.c (.k (I k))))] [(1000, .ro 8 l.length (elR l))])
    (fun k => k ≤ l.length) (fun k => l.length - k) 0 (by omega) (St.le_of rfl ⟨⟨_, rfl, Blk.le_refl _⟩, trivial⟩ ⟨rfl, rfl, rfl, rfl, rfl, trivial⟩) ?_)
  intro k hk
  refine G.seqR tfine rfl trivial ?_
  refine G.seq (G.cond rfl (fun h => ?_) (fun h => ?_))
  rotate_left
  · have h := of_decide_eq_false h
    have : k = l.length := by omega
    subst this
    refine G.exit ?_
    refine G.seqR tfine rfl trivial ?_
    refine G.ret (endK.ret rfl ?_)
    rw [List.take_length]
  have h := of_decide_eq_true h
  have hlt : k < l.length := by omega
  refine G.skip ?_
  refine G.seq (G.block ?_)
  refine G.seqR tfine rfl ?_ ?_
  · simp [AllP]; omega
  rw [Int.toNat_natCast]
  refine G.regC tfine rfl trivial ?_
  refine GO.callPlain (v := .bool ((l.take k).all okR && okR (l.getD k rep0))) rfl rfl rfl rfl (fun args w => Try.call66 args w) (fun ρ w hm _ => rights1_any _ (l.getD k rep0) w) ?_
  refine GO.fin tfine rfl trivial ?_
  refine G.reg tfine rfl trivial ?_
  rw [IntWalk.i64_in ((k : Int) + 1) (by omega), ← take_all okR l k rep0 hlt]
  exact ⟨k + 1, hlt, (by show l.length - (k + 1) < l.length - k; omega), St.le_of rfl ⟨⟨_, rfl, Blk.le_refl _⟩, trivial⟩ ⟨rfl, rfl, rfl, rfl, rfl, trivial⟩⟩
theorem rights_any (A : Option Addr) (c : Nat) (l : List Rep) (w : World) (hl : RdRow w A l.length 8 (elR l)) (hm : l.length ≤ 4611686018427387904) :
    Calls Try.prog 42 #[.slice A l.length c] w fun e w' => e = .returned (.bool (l.all okR)) ∧ Below w.heap.size w w' := by
  refine enterPlain tfine Try.func42 rfl 5 Try.ntmps42 [.c (.inp 1000 A l.length c)] [⟨1000, A, 8, l.length, elR l⟩] rfl rfl ⟨hl, trivial⟩ ⟨.inl ⟨rfl, rfl, rfl⟩, trivial⟩ ?_
  refine G.seqR tfine rfl trivial ?_
  refine G.seqC tfine rfl trivial ?_
  refine GO.callPlain (v := .bool (l.all okR)) rfl rfl rfl rfl (fun args w => Try.call65 args w) (fun ρ w hs hok => foldB_any A c l w (hs.row (cap := c) rfl (hok _ List.mem_cons_self)) hm) ?_
  refine GO.fin tfine rfl trivial ?_
  exact G.ret (endK.ret rfl rfl)
theorem foldP_any (f : FuncId) (p : Value) (stp : Int × Int → Rep → Int × Int) (hcf : ∀ args w, (callFunc f args).run Try.prog w = .ok (.enter f args) w) (A : Option Addr) (c : Nat) (l : List Rep) (b : Int × Int) (w : World)
    (hf : ∀ w1, Below w.heap.size w w1 → ∀ (b : Int × Int) (r : Rep), Calls Try.prog f #[.agg #[I b.1, I b.2], Rep.v r, p] w1 fun e w' => e = .returned (.agg #[I (stp b r).1, I (stp b r).2]) ∧ Below w1.heap.size w1 w') (hl : RdRow w A l.length 8 (elR l)) (hm : l.length ≤ 4611686018427387904) :
    Calls Try.prog 45 #[.slice A l.length c, .agg #[I b.1, I b.2], .func (.func f) #[] #[p]] w fun e w' => e = .returned (.agg #[I (l.foldl stp b).1, I (l.foldl stp b).2]) ∧ Below w.heap.size w w' := by
  refine enterPlain tfine Try.func45 rfl 21 Try.ntmps45 [.c (.inp 1000 A l.length c), .agg [.k (I b.1), .k (I b.2)], .c (.k (.func (.func f) #[] #[p]))] [⟨1000, A, 8, l.length, elR l⟩] rfl rfl ⟨hl, trivial⟩ ⟨.inl ⟨rfl, rfl, rfl⟩, ⟨trivial, trivial, trivial⟩, trivial, trivial⟩ ?_
  refine G.seqR tfine rfl trivial ?_
  refine G.seq (G.seqR tfine rfl trivial ?_)
  refine G.block (G.loop (fun k : Nat => St.of [(2, .v (.c (.k (.func (.func f) #[] #[p])))), (4, .v (.c (.ptr 4 0 0 0))), (6, .v (.c (.ptr 6 0 0 0))), (9, .v (.c (.inp 1000 A l.length c))), (10, .v (.c (.k (I l.length)))), (11, .v (.c (.k (I k))))]
      [(4, .var 30 [.k (I ((l.take k).foldl stp b).1), .k (I ((l.take k).foldl stp b).2)]), (6, .var 30 [.k (I 0), .k (I 0)]), (1000, .ro 8 l.length (elR l))])
    (fun k => k ≤ l.length) (fun k => l.length - k) 0 (by omega) (St.le_of rfl ⟨⟨_, rfl, Blk.le_refl _⟩, ⟨_, rfl, Blk.le_refl _⟩, ⟨_, rfl, Blk.le_refl _⟩, trivial⟩ ⟨rfl, rfl, rfl, rfl, rfl, rfl, trivial⟩) ?_)
  intro k hk
  refine G.seqR tfine rfl trivial ?_
  refine G.seq (G.cond rfl (fun h => ?_) (fun h => ?_))
  rotate_left
  · have h := of_decide_eq_false h
    have : k = l.length := by omega
    subst this
    refine G.exit ?_
    refine G.seqR tfine rfl trivial ?_
    refine G.ret (endK.ret rfl ?_)
    rw [List.take_length]
  have h := of_decide_eq_true h
  have hlt : k < l.length := by omega
  refine G.skip ?_
  refine G.seq (G.block ?_)
  refine G.seqR tfine rfl ?_ ?_
  · simp [AllP]; omega
  rw [Int.toNat_natCast]
  refine G.regC tfine rfl trivial ?_
  have hstep : (l.take (k + 1)).foldl stp b = stp ((l.take k).foldl stp b) (l.getD k rep0) := by
    rw [List.take_succ_eq_append_getElem hlt, List.foldl_append, List.getD_eq_getElem?_getD, List.getElem?_eq_getElem hlt]
    rfl
  refine GO.callPlain (v := .agg #[I (stp ((l.take k).foldl stp b) (l.getD k rep0)).1, I (stp ((l.take k).foldl stp b) (l.getD k rep0)).2]) rfl rfl rfl rfl hcf (fun ρ w1 hm _ => hf w1 hm.fr.toBelow ((l.take k).foldl stp b) (l.getD k rep0)) ?_
  refine GO.fin tfine rfl trivial ?_
  refine G.reg tfine rfl trivial ?_
  rw [IntWalk.i64_in ((k : Int) + 1) (by omega), ← hstep]
  exact ⟨k + 1, hlt, (by show l.length - (k + 1) < l.length - k; omega), St.le_of rfl ⟨⟨_, rfl, Blk.le_refl _⟩, ⟨_, rfl, Blk.le_refl _⟩, ⟨_, rfl, Blk.le_refl _⟩, trivial⟩ ⟨rfl, rfl, rfl, rfl, rfl, rfl, trivial⟩⟩
def meet (a b : Int × Int) : Int × Int := gauge_Together_2 a.1 a.2 b.1 b.2
def addW (a b : Int × Int) : Int × Int := gauge_Total_1 a.1 a.2 b.1 b.2
def vol (r : Rep) : Int × Int := (r.vl, r.vh)
def alc (r : Rep) : Int × Int := (r.al, r.ah)
theorem meetV_any (g : Nat) (b : Int × Int) (r : Rep) (w : World) (hg : w.heap[g]? = some (.cells #[.func (.func 44) #[] #[]] 68 (0, 0))) :
    Calls Try.prog 46 #[.agg #[I b.1, I b.2], Rep.v r, .pointer (some ⟨g, 0, none⟩)] w fun e w' => e = .returned (.agg #[I (meet b (vol r)).1, I (meet b (vol r)).2]) ∧ Below w.heap.size w w' := by
  refine enterCap tfine (g := g) 68 [.k (.func (.func 44) #[] #[])] Try.func46 rfl 11 Try.ntmps46 [.agg [.k (I b.1), .k (I b.2)], .agg [.k (I r.d), .k (I r.p), .k (I r.h), .k (I r.s), .k (I r.vl), .k (I r.vh), .k (I r.al), .k (I r.ah)], .c (.ptr 1900 0 0 0)] [] trivial hg rfl rfl trivial ⟨trivial, trivial⟩
    ⟨⟨trivial, trivial, trivial⟩, ⟨trivial, trivial, trivial, trivial, trivial, trivial, trivial, trivial, trivial⟩, rfl, trivial⟩ ?_
  refine G.seqR tfine rfl trivial ?_
  refine G.seqC tfine rfl trivial ?_
  refine GO.callPlain (v := .agg #[I (meet b (vol r)).1, I (meet b (vol r)).2]) rfl rfl rfl rfl (fun args w => Try.call44 args w) (fun ρ w hm _ => gauge_Together_2_any b.1 b.2 (vol r).1 (vol r).2 w) ?_
  refine GO.fin tfine rfl trivial ?_
  exact G.ret (endCap.ret rfl rfl rfl)
theorem meetA_any (g : Nat) (b : Int × Int) (r : Rep) (w : World) (hg : w.heap[g]? = some (.cells #[.func (.func 44) #[] #[]] 68 (0, 0))) :
    Calls Try.prog 47 #[.agg #[I b.1, I b.2], Rep.v r, .pointer (some ⟨g, 0, none⟩)] w fun e w' => e = .returned (.agg #[I (meet b (alc r)).1, I (meet b (alc r)).2]) ∧ Below w.heap.size w w' := by
  refine enterCap tfine (g := g) 68 [.k (.func (.func 44) #[] #[])] Try.func47 rfl 11 Try.ntmps47 [.agg [.k (I b.1), .k (I b.2)], .agg [.k (I r.d), .k (I r.p), .k (I r.h), .k (I r.s), .k (I r.vl), .k (I r.vh), .k (I r.al), .k (I r.ah)], .c (.ptr 1900 0 0 0)] [] trivial hg rfl rfl trivial ⟨trivial, trivial⟩
    ⟨⟨trivial, trivial, trivial⟩, ⟨trivial, trivial, trivial, trivial, trivial, trivial, trivial, trivial, trivial⟩, rfl, trivial⟩ ?_
  refine G.seqR tfine rfl trivial ?_
  refine G.seqC tfine rfl trivial ?_
  refine GO.callPlain (v := .agg #[I (meet b (alc r)).1, I (meet b (alc r)).2]) rfl rfl rfl rfl (fun args w => Try.call44 args w) (fun ρ w hm _ => gauge_Together_2_any b.1 b.2 (alc r).1 (alc r).2 w) ?_
  refine GO.fin tfine rfl trivial ?_
  exact G.ret (endCap.ret rfl rfl rfl)
theorem addV_any (g : Nat) (b : Int × Int) (r : Rep) (w : World) (hg : w.heap[g]? = some (.cells #[.func (.func 48) #[] #[]] 68 (0, 0))) :
    Calls Try.prog 49 #[.agg #[I b.1, I b.2], Rep.v r, .pointer (some ⟨g, 0, none⟩)] w fun e w' => e = .returned (.agg #[I (addW b (vol r)).1, I (addW b (vol r)).2]) ∧ Below w.heap.size w w' := by
  refine enterCap tfine (g := g) 68 [.k (.func (.func 48) #[] #[])] Try.func49 rfl 11 Try.ntmps49 [.agg [.k (I b.1), .k (I b.2)], .agg [.k (I r.d), .k (I r.p), .k (I r.h), .k (I r.s), .k (I r.vl), .k (I r.vh), .k (I r.al), .k (I r.ah)], .c (.ptr 1900 0 0 0)] [] trivial hg rfl rfl trivial ⟨trivial, trivial⟩
    ⟨⟨trivial, trivial, trivial⟩, ⟨trivial, trivial, trivial, trivial, trivial, trivial, trivial, trivial, trivial⟩, rfl, trivial⟩ ?_
  refine G.seqR tfine rfl trivial ?_
  refine G.seqC tfine rfl trivial ?_
  refine GO.callPlain (v := .agg #[I (addW b (vol r)).1, I (addW b (vol r)).2]) rfl rfl rfl rfl (fun args w => Try.call48 args w) (fun ρ w hm _ => gauge_Total_1_any b.1 b.2 (vol r).1 (vol r).2 w) ?_
  refine GO.fin tfine rfl trivial ?_
  exact G.ret (endCap.ret rfl rfl rfl)
theorem addA_any (g : Nat) (b : Int × Int) (r : Rep) (w : World) (hg : w.heap[g]? = some (.cells #[.func (.func 48) #[] #[]] 68 (0, 0))) :
    Calls Try.prog 50 #[.agg #[I b.1, I b.2], Rep.v r, .pointer (some ⟨g, 0, none⟩)] w fun e w' => e = .returned (.agg #[I (addW b (alc r)).1, I (addW b (alc r)).2]) ∧ Below w.heap.size w w' := by
  refine enterCap tfine (g := g) 68 [.k (.func (.func 48) #[] #[])] Try.func50 rfl 11 Try.ntmps50 [.agg [.k (I b.1), .k (I b.2)], .agg [.k (I r.d), .k (I r.p), .k (I r.h), .k (I r.s), .k (I r.vl), .k (I r.vh), .k (I r.al), .k (I r.ah)], .c (.ptr 1900 0 0 0)] [] trivial hg rfl rfl trivial ⟨trivial, trivial⟩
    ⟨⟨trivial, trivial, trivial⟩, ⟨trivial, trivial, trivial, trivial, trivial, trivial, trivial, trivial, trivial⟩, rfl, trivial⟩ ?_
  refine G.seqR tfine rfl trivial ?_
  refine G.seqC tfine rfl trivial ?_
  refine GO.callPlain (v := .agg #[I (addW b (alc r)).1, I (addW b (alc r)).2]) rfl rfl rfl rfl (fun args w => Try.call48 args w) (fun ρ w hm _ => gauge_Total_1_any b.1 b.2 (alc r).1 (alc r).2 w) ?_
  refine GO.fin tfine rfl trivial ?_
  exact G.ret (endCap.ret rfl rfl rfl)
end Go.Proofs.Ytiicemgngccicaa
