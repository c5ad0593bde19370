/- Chapter 15: rows of marks and of reports; the table's faults. -/
import Derived.Test.YtiicemgngccicaaGaA
import Derived.Test.YtiicemgngccicaaSxX
set_option linter.unusedVariables false
set_option linter.unusedSimpArgs false
set_option maxRecDepth 8000
set_option maxHeartbeats 1000000
namespace Go.Proofs.Ytiicemgngccicaa
open Go.Sx Go.RowKit
def elM (l : List (Int × Int)) (i : Nat) : List Value := [I (l.getD i (0, 0)).1, I (l.getD i (0, 0)).2]
theorem indexFuncM_any (f : FuncId) (q : (Int × Int) → Bool) (hcf : ∀ args w, (callFunc f args).run Try.prog w = .ok (.enter f args) w)
    (hf : ∀ v w, Calls Try.prog f #[.agg #[I v.1, I v.2]] w fun e w' => e = .returned (.bool (q v)) ∧ Below w.heap.size w w') (A : Option Addr) (c : Nat) (l : List (Int × Int)) (w : World) (hl : RdRow w A l.length 2 (elM l)) (hm : l.length ≤ 4611686018427387904) :
    Calls Try.prog 67 #[.slice A l.length c, .func (.func f) #[] #[]] w fun e w' => e = .returned (I (firstI (fun k => q (l.getD k (0, 0))) 0 l.length)) ∧ Below w.heap.size w w' := by
  refine enterPlain tfine Try.func67 rfl 19 Try.ntmps67 [.c (.inp 1000 A l.length c), .c (.k (.func (.func f) #[] #[]))] [⟨1000, A, 2, l.length, elM l⟩] rfl rfl ⟨hl, trivial⟩ ⟨.inl ⟨rfl, rfl, rfl⟩, trivial, trivial⟩ ?_
  refine G.seqR tfine rfl trivial ?_
  refine G.seq (G.seqR tfine rfl trivial ?_)
  refine G.block (G.loop (fun k : Nat => St.of [(0, .v (.c (.inp 1000 A l.length c))), (1, .v (.c (.k (.func (.func f) #[] #[])))), (7, .v (.c (.k (I l.length)))), (8, .v (.c (.k (I k))))] [(1000, .ro 2 l.length (elM l))])
    (fun k => k ≤ l.length ∧ firstI (fun k => q (l.getD k (0, 0))) 0 l.length = firstI (fun k => q (l.getD k (0, 0))) k (l.length - k)) (fun k => l.length - k) 0 ⟨by omega, by simp⟩ (St.le_of rfl ⟨⟨_, rfl, Blk.le_refl _⟩, trivial⟩ ⟨rfl, rfl, rfl, rfl, trivial⟩) ?_)
  rintro k ⟨hk, hfi⟩
  refine G.seqR tfine rfl trivial ?_
  refine G.seq (G.cond rfl (fun h => ?_) (fun h => ?_))
  rotate_left
  · have h := of_decide_eq_false h
    have : k = l.length := by omega
    subst this
    refine G.exit ?_
    refine G.seqR tfine rfl trivial ?_
    refine G.ret (endK.ret rfl ?_)
    rw [hfi]
    simp [firstI]
  have h := of_decide_eq_true h
  have hlt : k < l.length := by omega
  refine G.skip ?_
  refine G.seq (G.block ?_)
  refine G.seqR tfine rfl trivial ?_
  refine G.seqC tfine rfl ⟨by simpa using hlt, by omega, by omega, trivial⟩ ?_
  rw [Int.toNat_natCast]
  refine GO.callPlain rfl rfl rfl rfl hcf (fun ρ w hm _ => hf _ w) (GO.nil ?_)
  have hs : l.length - k = (l.length - (k + 1)) + 1 := by omega
  rw [hs, firstI] at hfi
  refine G.cond rfl (fun h2 => ?_) (fun h2 => ?_)
  · refine G.seqR tfine rfl trivial ?_
    refine G.ret (endK.ret rfl ?_)
    rw [hfi, if_pos h2]
  · refine G.skip ?_
    refine G.reg tfine rfl trivial ?_
    rw [IntWalk.i64_in _ (by omega)]
    rw [if_neg (by simpa using h2)] at hfi
    exact ⟨k + 1, ⟨by omega, hfi⟩, (by show l.length - (k + 1) < l.length - k; omega), St.le_of rfl ⟨⟨_, rfl, Blk.le_refl _⟩, trivial⟩ ⟨rfl, rfl, rfl, by simp [up, I], trivial⟩⟩
theorem containsFuncM_any (f : FuncId) (q : (Int × Int) → Bool) (hcf : ∀ args w, (callFunc f args).run Try.prog w = .ok (.enter f args) w)
    (hf : ∀ v w, Calls Try.prog f #[.agg #[I v.1, I v.2]] w fun e w' => e = .returned (.bool (q v)) ∧ Below w.heap.size w w') (A : Option Addr) (c : Nat) (l : List (Int × Int)) (w : World) (hl : RdRow w A l.length 2 (elM l)) (hm : l.length ≤ 4611686018427387904) :
    Calls Try.prog 54 #[.slice A l.length c, .func (.func f) #[] #[]] w fun e w' => e = .returned (.bool (decide (firstI (fun k => q (l.getD k (0, 0))) 0 l.length ≥ 0))) ∧ Below w.heap.size w w' := by
  refine enterPlain tfine Try.func54 rfl 9 Try.ntmps54 [.c (.inp 1000 A l.length c), .c (.k (.func (.func f) #[] #[]))] [⟨1000, A, 2, l.length, elM l⟩] rfl rfl ⟨hl, trivial⟩ ⟨.inl ⟨rfl, rfl, rfl⟩, trivial, trivial⟩ ?_
  refine G.seqR tfine rfl trivial ?_
  refine G.seqC tfine rfl trivial ?_
  refine GO.callPlain rfl rfl rfl rfl (fun args w => Try.call67 args w) (fun ρ w hs hok => indexFuncM_any f q hcf hf A c l w (hs.row rfl (hok _ List.mem_cons_self)) hm) ?_
  refine GO.fin tfine rfl trivial ?_
  exact G.ret (endK.ret rfl rfl)
theorem any_getDg {α : Type} (q : α → Bool) (l : List α) (d : α) : (List.range' 0 l.length).any (fun k => q (l.getD k d)) = l.any q := by
  have : l.map q = (List.range' 0 l.length).map (fun k => q (l.getD k d)) := by
    apply List.ext_getElem?
    intro i
    rw [List.getElem?_map, List.getElem?_map]
    by_cases h : i < l.length
    · rw [List.getElem?_range' h, List.getElem?_eq_getElem h]
      simp [List.getD_eq_getElem?_getD, h]
    · rw [List.getElem?_eq_none (by omega), List.getElem?_eq_none (by simp; omega)]
      rfl
  have h2 : ∀ (l : List α), l.any q = (l.map q).any id := by intro l; simp [List.any_map]
  rw [h2, this]
  simp [List.any_map]
theorem getD_mem {α : Type} {l : List α} {k : Nat} {d : α} (h : k < l.length) : l.getD k d ∈ l := by
  rw [List.getD_eq_getElem?_getD, List.getElem?_eq_getElem h]; exact List.getElem_mem h
def badM (m : Int × Int) : Bool := dip_Check_1 m.1 m.2
def badP (a b : Int × Int) : Bool := (decide (a.1 ≥ b.1)) || (decide (a.2 > b.2))
def badPs (l : List (Int × Int)) : Bool := (List.range' 1 (l.length - 1)).any fun k => badP (l.getD (k - 1) (0, 0)) (l.getD k (0, 0))
theorem badPs_true {l : List (Int × Int)} {k : Nat} (h1 : 1 ≤ k) (h2 : k < l.length) (h : badP (l.getD (k - 1) (0, 0)) (l.getD k (0, 0)) = true) : badPs l = true :=
  List.any_eq_true.2 ⟨k, by rw [List.mem_range'_1]; omega, h⟩
theorem badPs_false {l : List (Int × Int)} (h : ∀ k, 1 ≤ k → k < l.length → badP (l.getD (k - 1) (0, 0)) (l.getD k (0, 0)) = false) : badPs l = false := by
  rw [badPs, List.any_eq_false]
  intro k hk
  rw [List.mem_range'_1] at hk
  rw [h k hk.1 (by omega)]
  simp
def tabE (l : List (Int × Int)) (tol : Int) : Int := if decide ((l.length : Int) < 2) = true then 9 else if decide ((l.length : Int) > 128) = true then 8 else if (!(dip_volume tol) || l.any badM) = true then 2 else if badPs l = true then 5 else 0
theorem dipCheck_any (A : Option Addr) (c : Nat) (l : List (Int × Int)) (tol : Int) (w : World) (hl : RdRow w A l.length 2 (elM l)) (hm : l.length ≤ 4611686018427387904) :
    Calls Try.prog 34 #[.agg #[.slice A l.length c, I tol]] w fun e w' => e = .returned (I (tabE l tol)) ∧ Below w.heap.size w w' := by
  refine enterPlain tfine Try.func34 rfl 53 Try.ntmps34 [.agg [.inp 1000 A l.length c, .k (I tol)]] [⟨1000, A, 2, l.length, elM l⟩] rfl rfl ⟨hl, trivial⟩ ⟨⟨.inl ⟨rfl, rfl, rfl⟩, trivial, trivial⟩, trivial⟩ ?_
  refine G.seqR tfine rfl trivial ?_
  refine G.seq (G.seqR tfine rfl trivial ?_)
  refine G.cond rfl (fun h1 => ?_) (fun h1 => ?_)
  · refine G.seqR tfine rfl trivial ?_
    refine G.ret (endK.ret rfl ?_)
    rw [tabE, if_pos h1]
  refine G.skip ?_
  refine G.seq (G.seqR tfine rfl trivial ?_)
  refine G.cond rfl (fun h2 => ?_) (fun h2 => ?_)
  · refine G.seqR tfine rfl trivial ?_
    refine G.ret (endK.ret rfl ?_)
    rw [tabE, if_neg (fne h1), if_pos h2]
  refine G.skip ?_
  refine G.seq (G.seqC tfine rfl trivial ?_)
  refine GO.callPlain (v := .bool (dip_volume tol)) rfl rfl rfl rfl (fun args w => Try.call53 args w) (fun ρ w hm _ => dip_volume_any _ w) ?_
  refine GO.more tfine rfl ?_ ?_
  · simp [AllP, condB]
  refine GO.callGuard (.bool (l.any badM)) rfl rfl rfl (by first | exact trivial | exact ⟨id, trivial⟩) rfl rfl (fun args w => Try.call54 args w) rfl (fun _ m' hle ρ w hs hok => ?_) ?_
  · have := containsFuncM_any 55 badM (fun args w => Try.call55 args w) (fun v w => dip_Check_1_any v.1 v.2 w) A c l w (hs.row (hle.at rfl) (hok _ List.mem_cons_self)) hm
    rw [firstI_any, any_getDg] at this
    exact this
  refine GO.fin tfine rfl ?_ ?_
  · simp [AllP, condB]
  refine G.cond rfl (fun h3 => ?_) (fun h3 => ?_)
  · refine G.seqR tfine rfl trivial ?_
    refine G.ret (endK.ret rfl ?_)
    rw [tabE, if_neg (fne h1), if_neg (fne h2), if_pos h3]
  refine G.skip ?_
  have h1' := of_decide_eq_false h1
  have h2' := of_decide_eq_false h2
  refine G.seq (G.seqR tfine rfl trivial ?_)
  refine G.block (G.loop (fun k : Nat => St.of [(1, .v (.c (.ptr 1 0 0 0))), (3, .v (.c (.k (I k))))] [(1, .var 24 [.inp 1000 A l.length c, .k (I tol)]), (1000, .ro 2 l.length (elM l))])
    (fun k => 1 ≤ k ∧ k ≤ l.length ∧ ∀ j, 1 ≤ j → j < k → badP (l.getD (j - 1) (0, 0)) (l.getD j (0, 0)) = false) (fun k => l.length - k) 1 ⟨Nat.le_refl _, by omega, fun j h4 h5 => by omega⟩
    (St.le_of rfl ⟨⟨_, rfl, Blk.le_refl _⟩, ⟨_, rfl, Blk.le_refl _⟩, trivial⟩ ⟨rfl, rfl, trivial⟩) ?_)
  rintro k ⟨hk1, hk2, hpre⟩
  refine G.seq (G.seqR tfine rfl trivial ?_)
  refine G.cond rfl (fun h => ?_) (fun h => ?_)
  rotate_left
  · have h := of_decide_eq_false h
    refine G.exit ?_
    refine G.seqR tfine rfl trivial ?_
    refine G.ret (endK.ret rfl ?_)
    rw [tabE, if_neg (fne h1), if_neg (fne h2), if_neg (fne h3), badPs_false fun j h4 h5 => hpre j h4 (by omega)]
    rfl
  have h := of_decide_eq_true h
  have hlt : k < l.length := by omega
  have e1 : IntKind.i64.wrap ((k : Int) - 1) = (k : Int) - 1 := IntWalk.i64_in _ (by omega)
  have e2 : ((k : Int) - 1).toNat = k - 1 := by omega
  refine G.skip ?_
  refine G.seq (G.block ?_)
  refine G.seqD tfine hmix [0, 1, 0, 4, 15, 31, 0, 64, 0, 448, 960, 0, 0, 6207, 16383] [(13, 4), (14, 5)] rfl rfl rfl rfl ?_ ?_
  · rw [e1]
    simp [AllP]
    omega
  rw [e1, e2, Int.toNat_natCast]
  refine G.seqR tfine rfl ?_ ?_
  · simp [AllP, condB]
  refine G.cond (b := badP (l.getD (k - 1) (0, 0)) (l.getD k (0, 0))) rfl (fun h6 => ?_) (fun h6 => ?_)
  · refine G.seqR tfine rfl trivial ?_
    refine G.ret (endK.ret rfl ?_)
    rw [tabE, if_neg (fne h1), if_neg (fne h2), if_neg (fne h3), badPs_true hk1 hlt h6]
    rfl
  refine G.skip ?_
  refine G.reg tfine rfl trivial ?_
  rw [IntWalk.i64_in ((k : Int) + 1) (by omega)]
  refine ⟨k + 1, ⟨by omega, hlt, fun j h7 h8 => ?_⟩, (by show l.length - (k + 1) < l.length - k; omega), St.le_of rfl ⟨⟨_, rfl, Blk.le_refl _⟩, ⟨_, rfl, Blk.le_refl _⟩, trivial⟩ ⟨rfl, rfl, trivial⟩⟩
  by_cases e : j = k
  · rw [e]; exact h6
  · exact hpre j h7 (by omega)
end Go.Proofs.Ytiicemgngccicaa
