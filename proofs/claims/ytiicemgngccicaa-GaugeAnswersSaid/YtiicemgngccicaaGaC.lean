/- Chapter 15: the reference's check of a table, the reading, and the wet volume. -/
import Derived.Test.YtiicemgngccicaaGaB
set_option linter.unusedVariables false
set_option linter.unusedSimpArgs false
set_option maxRecDepth 8000
set_option maxHeartbeats 1000000
namespace Go.Proofs.Ytiicemgngccicaa
open Go.Sx Go.RowKit
theorem any_of_false {α : Type} {q : α → Bool} {l : List α} {d : α} (h : ∀ j, j < l.length → q (l.getD j d) = false) : l.any q = false := by
  rw [List.any_eq_false]
  intro x hx
  obtain ⟨i, hi, rfl⟩ := List.mem_iff_getElem.1 hx
  have := h i hi
  rw [List.getD_eq_getElem?_getD, List.getElem?_eq_getElem hi] at this
  simpa using this
theorem any_of_true {α : Type} {q : α → Bool} {l : List α} {d : α} {k : Nat} (hk : k < l.length) (h : q (l.getD k d) = true) : l.any q = true := List.any_eq_true.2 ⟨_, getD_mem hk, h⟩
def badM2 (m : Int × Int) : Bool := (((decide (m.1 < 0)) || (decide (m.1 > 200000))) || (decide (m.2 < 0))) || (decide (m.2 > 4294967296))
theorem badM2_eq (m : Int × Int) : badM2 m = badM m := by
  rw [Bool.eq_iff_iff]
  simp [badM2, badM, dip_Check_1, dip_volume]
  omega
theorem vol_eq (t : Int) : ((decide (t < 0)) || (decide (t > 4294967296))) = !(dip_volume t) := by
  rw [Bool.eq_iff_iff]
  simp [dip_volume]
theorem tabE_ok {l : List (Int × Int)} {tol : Int} (h : tabE l tol = 0) : 2 ≤ l.length ∧ l.length ≤ 128 ∧ (0 ≤ tol ∧ tol ≤ 4294967296) ∧ (∀ j, j < l.length → (0 ≤ (l.getD j (0, 0)).1 ∧ (l.getD j (0, 0)).1 ≤ 200000) ∧ (0 ≤ (l.getD j (0, 0)).2 ∧ (l.getD j (0, 0)).2 ≤ 4294967296)) ∧
    ∀ k, 1 ≤ k → k < l.length → (l.getD (k - 1) (0, 0)).1 < (l.getD k (0, 0)).1 ∧ (l.getD (k - 1) (0, 0)).2 ≤ (l.getD k (0, 0)).2 := by
  unfold tabE at h
  split at h
  · cases h
  rename_i h1
  split at h
  · cases h
  rename_i h2
  split at h
  · cases h
  rename_i h3
  split at h
  · cases h
  rename_i h4
  simp only [decide_eq_true_eq] at h1 h2
  simp only [Bool.or_eq_true, not_or, Bool.not_eq_true', Bool.not_eq_false, Bool.not_eq_true] at h3
  have ht : 0 ≤ tol ∧ tol ≤ 4294967296 := by simpa [dip_volume] using h3.1
  refine ⟨by omega, by omega, ht, fun j hj => ?_, fun k h5 h6 => ?_⟩
  · have := List.any_eq_false.1 h3.2 _ (getD_mem (d := (0, 0)) hj)
    rw [← badM2_eq] at this
    simp [badM2, -List.getD_eq_getElem?_getD] at this
    omega
  · have : badP (l.getD (k - 1) (0, 0)) (l.getD k (0, 0)) = false := by
      cases hb : badP (l.getD (k - 1) (0, 0)) (l.getD k (0, 0)) with
      | false => rfl
      | true => exact absurd (badPs_true h5 h6 hb) h4
    simp [badP, -List.getD_eq_getElem?_getD] at this
    omega
theorem ref13Check_any (A : Option Addr) (c : Nat) (l : List (Int × Int)) (tol : Int) (w : World) (hl : RdRow w A l.length 2 (elM l)) (hm : l.length ≤ 4611686018427387904) :
    Calls Try.prog 33 #[.agg #[.slice A l.length c, I tol]] w fun e w' => e = .returned (I (tabE l tol)) ∧ Below w.heap.size w w' := by
  refine enterPlain tfine Try.func33 rfl 89 Try.ntmps33 [.agg [.inp 1000 A l.length c, .k (I tol)]] [⟨1000, A, 2, l.length, elM l⟩] rfl rfl ⟨hl, trivial⟩ ⟨⟨.inl ⟨rfl, rfl, rfl⟩, trivial, trivial⟩, trivial⟩ ?_
  refine G.seqR tfine rfl trivial ?_
  refine G.seq (G.seqR tfine rfl trivial ?_)
  refine G.cond rfl (fun h1 => ?_) (fun h1 => ?_)
  · refine G.seqR tfine rfl trivial ?_
    refine G.ret (endK.ret rfl ?_)
    rw [tabE, if_pos h1]
  refine G.skip ?_
  refine G.seq (G.seqR tfine rfl trivial ?_)
  refine G.cond rfl (fun h2 => ?_) (fun h2 => ?_)
  · refine G.seqR tfine rfl trivial ?_
    refine G.ret (endK.ret rfl ?_)
    rw [tabE, if_neg (fne h1), if_pos h2]
  refine G.skip ?_
  have h1' := of_decide_eq_false h1
  have h2' := of_decide_eq_false h2
  refine G.seq (G.seqR tfine rfl trivial ?_)
  refine G.block (G.loop (fun k : Nat => St.of [(1, .v (.c (.ptr 1 0 0 0))), (3, .v (.c (.k (I k))))] [(1, .var 24 [.inp 1000 A l.length c, .k (I tol)]), (1000, .ro 2 l.length (elM l))])
    (fun k => k ≤ l.length ∧ ∀ j, j < k → badM (l.getD j (0, 0)) = false) (fun k => l.length - k) 0 ⟨by omega, fun j h5 => by omega⟩
    (St.le_of rfl ⟨⟨_, rfl, Blk.le_refl _⟩, ⟨_, rfl, Blk.le_refl _⟩, trivial⟩ ⟨rfl, rfl, trivial⟩) ?_)
  rintro k ⟨hk2, hpre⟩
  refine G.seq (G.seqR tfine rfl trivial ?_)
  refine G.cond rfl (fun h => ?_) (fun h => ?_)
  · have h := of_decide_eq_true h
    have hlt : k < l.length := by omega
    refine G.skip ?_
    refine G.seq (G.block ?_)
    refine G.seqR tfine rfl ?_ ?_
    · simp [AllP]; omega
    rw [Int.toNat_natCast]
    refine G.seqR tfine rfl ?_ ?_
    · simp [AllP, condB]
    refine G.cond (b := badM2 (l.getD k (0, 0))) rfl (fun h6 => ?_) (fun h6 => ?_)
    · refine G.seqR tfine rfl trivial ?_
      refine G.ret (endK.ret rfl ?_)
      rw [badM2_eq] at h6
      rw [tabE, if_neg (fne h1), if_neg (fne h2), if_pos (by rw [any_of_true hlt h6]; simp)]
    refine G.skip ?_
    refine G.reg tfine rfl trivial ?_
    rw [IntWalk.i64_in ((k : Int) + 1) (by omega)]
    refine ⟨k + 1, ⟨hlt, fun j h8 => ?_⟩, (by show l.length - (k + 1) < l.length - k; omega), St.le_of rfl ⟨⟨_, rfl, Blk.le_refl _⟩, ⟨_, rfl, Blk.le_refl _⟩, trivial⟩ ⟨rfl, rfl, trivial⟩⟩
    by_cases e : j = k
    · rw [e, ← badM2_eq]; exact h6
    · exact hpre j (by omega)
  have h := of_decide_eq_false h
  have hany : l.any badM = false := any_of_false (d := (0, 0)) fun j hj => hpre j (by omega)
  refine G.exit ?_
  refine G.seq (G.seqR tfine rfl ?_ ?_)
  · simp [AllP, condB]
  rw [vol_eq]
  refine G.cond rfl (fun h3 => ?_) (fun h3 => ?_)
  · refine G.seqR tfine rfl trivial ?_
    refine G.ret (endK.ret rfl ?_)
    rw [tabE, if_neg (fne h1), if_neg (fne h2), if_pos (by rw [h3]; rfl)]
  refine G.skip ?_
  have h3' : ¬ (!(dip_volume tol) || l.any badM) = true := by rw [h3, hany]; simp
  refine G.seq (G.seqR tfine rfl trivial ?_)
  refine G.block (G.loop (fun k : Nat => St.of [(1, .v (.c (.ptr 1 0 0 0))), (5, .v (.c (.k (I k))))] [(1, .var 24 [.inp 1000 A l.length c, .k (I tol)]), (1000, .ro 2 l.length (elM l))])
    (fun k => 1 ≤ k ∧ k ≤ l.length ∧ ∀ j, 1 ≤ j → j < k → badP (l.getD (j - 1) (0, 0)) (l.getD j (0, 0)) = false) (fun k => l.length - k) 1 ⟨Nat.le_refl _, by omega, fun j h4 h5 => by omega⟩
    (St.le_of rfl ⟨⟨_, rfl, Blk.le_refl _⟩, ⟨_, rfl, Blk.le_refl _⟩, trivial⟩ ⟨rfl, rfl, trivial⟩) ?_)
  rintro k ⟨hk1, hk2, hpre⟩
  refine G.seq (G.seqR tfine rfl trivial ?_)
  refine G.cond rfl (fun h => ?_) (fun h => ?_)
  rotate_left
  · have h := of_decide_eq_false h
    refine G.exit ?_
    refine G.seqR tfine rfl trivial ?_
    refine G.ret (endK.ret rfl ?_)
    rw [tabE, if_neg (fne h1), if_neg (fne h2), if_neg h3', badPs_false fun j h4 h5 => hpre j h4 (by omega)]
    rfl
  have h := of_decide_eq_true h
  have hlt : k < l.length := by omega
  have e1 : IntKind.i64.wrap ((k : Int) - 1) = (k : Int) - 1 := IntWalk.i64_in _ (by omega)
  have e2 : ((k : Int) - 1).toNat = k - 1 := by omega
  refine G.skip ?_
  refine G.seq (G.block ?_)
  refine G.seqD tfine hmix [0, 1, 0, 4, 15, 31, 63, 0, 128, 0, 896, 1920, 3968, 8191, 16383, 32767, 65535, 32767, 163839, 524287, 1048575, 2097151, 32767, 4227071, 32767, 29392895, 62947327, 130056191, 268435455, 536870911] [] rfl rfl rfl rfl ?_ ?_
  · rw [e1]
    simp [AllP, condB]
    omega
  rw [e1, e2, Int.toNat_natCast]
  refine G.cond (b := badP (l.getD (k - 1) (0, 0)) (l.getD k (0, 0))) rfl (fun h6 => ?_) (fun h6 => ?_)
  · refine G.seqR tfine rfl trivial ?_
    refine G.ret (endK.ret rfl ?_)
    rw [tabE, if_neg (fne h1), if_neg (fne h2), if_neg h3', badPs_true hk1 hlt h6]
    rfl
  refine G.skip ?_
  refine G.reg tfine rfl trivial ?_
  rw [IntWalk.i64_in ((k : Int) + 1) (by omega)]
  refine ⟨k + 1, ⟨by omega, hlt, fun j h7 h8 => ?_⟩, (by show l.length - (k + 1) < l.length - k; omega), St.le_of rfl ⟨⟨_, rfl, Blk.le_refl _⟩, ⟨_, rfl, Blk.le_refl _⟩, trivial⟩ ⟨rfl, rfl, trivial⟩⟩
  by_cases e : j = k
  · rw [e]; exact h6
  · exact hpre j h7 (by omega)
/-! ### The reading -/
theorem read1_any (A : Option Addr) (c : Nat) (l : List (Int × Int)) (tol h : Int) (w : World) (hl : RdRow w A l.length 2 (elM l)) (hz : tabE l tol = 0) (hh : h ≤ (l.getD (l.length - 1) (0, 0)).1) :
    Calls Try.prog 52 #[.agg #[.slice A l.length c, I tol], I h] w fun e w' => ∃ v, e = .returned v ∧ (∃ z, v = I z) ∧ Below w.heap.size w w' := by
  obtain ⟨q1, q2, q3, q4, q5⟩ := tabE_ok hz
  refine enterProp tfine (fun v => ∃ z, v = I z) Try.func52 rfl 48 Try.ntmps52 [.agg [.inp 1000 A l.length c, .k (I tol)], .c (.k (I h))] [⟨1000, A, 2, l.length, elM l⟩] rfl rfl ⟨hl, trivial⟩ ⟨⟨.inl ⟨rfl, rfl, rfl⟩, trivial, trivial⟩, trivial, trivial⟩ ?_
  refine G.seqR tfine rfl trivial ?_
  refine G.seqR tfine rfl trivial ?_
  refine G.seq (G.block (G.loop (fun k : Nat => St.of [(1, .v (.c (.k (I h)))), (2, .v (.c (.ptr 2 0 0 0))), (5, .v (.c (.k (I k))))] [(2, .var 24 [.inp 1000 A l.length c, .k (I tol)]), (1000, .ro 2 l.length (elM l))])
    (fun k => 1 ≤ k ∧ k < l.length) (fun k => l.length - k) 1 ⟨Nat.le_refl _, by omega⟩
    (St.le_of rfl ⟨⟨_, rfl, Blk.le_refl _⟩, ⟨_, rfl, Blk.le_refl _⟩, trivial⟩ ⟨rfl, rfl, rfl, trivial⟩) ?_))
  rintro k ⟨hk1, hk2⟩
  have e1 : IntKind.i64.wrap ((k : Int) - 1) = (k : Int) - 1 := IntWalk.i64_in _ (by omega)
  have e2 : ((k : Int) - 1).toNat = k - 1 := by omega
  refine G.seq (G.seqR tfine rfl ?_ ?_)
  · simp [AllP]; omega
  rw [Int.toNat_natCast]
  refine G.cond rfl (fun h6 => ?_) (fun h6 => ?_)
  · have h6 := of_decide_eq_true h6
    refine G.skip ?_
    refine G.block ?_
    refine G.reg tfine rfl trivial ?_
    rw [IntWalk.i64_in ((k : Int) + 1) (by omega)]
    have : k ≠ l.length - 1 := fun e => by rw [← e] at hh; omega
    exact ⟨k + 1, ⟨by omega, by omega⟩, (by show l.length - (k + 1) < l.length - k; omega), St.le_of rfl ⟨⟨_, rfl, Blk.le_refl _⟩, ⟨_, rfl, Blk.le_refl _⟩, trivial⟩ ⟨rfl, rfl, rfl, trivial⟩⟩
  refine G.exit ?_
  refine G.seqD tfine hmix [0, 1, 0, 4, 15, 31, 0, 64, 0, 448, 960, 0, 0, 6207, 16383] [(13, 6), (14, 7)] rfl rfl rfl rfl ?_ ?_
  · rw [e1]
    simp [AllP]
    omega
  rw [e1, e2, Int.toNat_natCast]
  have hd := q5 k hk1 hk2
  have m1 := (q4 k hk2).1
  have m2 := (q4 (k - 1) (by omega)).1
  refine G.seqD tfine hmix [0, 1, 0, 4, 0, 16, 60, 0, 0, 256, 896, 2044, 0, 4096, 0, 16384, 61440, 131068, 262143, 524287] [] rfl rfl rfl rfl ?_ ?_
  · simp only [AllP, and_true]
    rw [IntWalk.i64_in ((l.getD k (0, 0)).1 - (l.getD (k - 1) (0, 0)).1) (by omega)]
    omega
  exact G.ret (endKp.ret rfl ⟨_, rfl⟩)
def outR (l : List (Int × Int)) (h : Int) : Bool := (decide (h < (l.getD 0 (0, 0)).1)) || (decide (h > (l.getD (l.length - 1) (0, 0)).1))
def readE (l : List (Int × Int)) (tol h : Int) : Int := if (tabE l tol != 0) = true then 1 else if outR l h = true then 2 else 0
theorem read_any (A : Option Addr) (c : Nat) (l : List (Int × Int)) (tol h : Int) (w : World) (hl : RdRow w A l.length 2 (elM l)) (hm : l.length ≤ 4611686018427387904) :
    Calls Try.prog 32 #[.agg #[.slice A l.length c, I tol], I h] w fun e w' => ∃ v, e = .returned v ∧ (∃ z, v = .tuple #[I z, I (readE l tol h)]) ∧ Below w.heap.size w w' := by
  refine enterProp tfine (fun v => ∃ z, v = .tuple #[I z, I (readE l tol h)]) Try.func32 rfl 32 Try.ntmps32 [.agg [.inp 1000 A l.length c, .k (I tol)], .c (.k (I h))] [⟨1000, A, 2, l.length, elM l⟩] rfl rfl ⟨hl, trivial⟩ ⟨⟨.inl ⟨rfl, rfl, rfl⟩, trivial, trivial⟩, trivial, trivial⟩ ?_
  refine G.seqR tfine rfl trivial ?_
  refine G.seq (G.seqC tfine rfl trivial ?_)
  refine GO.callPlain (v := I (tabE l tol)) rfl rfl rfl rfl (fun args w => Try.call34 args w) (fun ρ w hs hok => dipCheck_any A c l tol w (hs.row (cap := c) rfl (hok _ List.mem_cons_self _ List.mem_cons_self)) hm) ?_
  refine GO.fin tfine rfl trivial ?_
  refine G.cond rfl (fun h1 => ?_) (fun h1 => ?_)
  · refine G.seqR tfine rfl trivial ?_
    refine G.ret (endKp.ret rfl ⟨0, ?_⟩)
    rw [readE, if_pos h1]
  refine G.skip ?_
  have hz : tabE l tol = 0 := by simpa using h1
  obtain ⟨q1, q2, q3, q4, q5⟩ := tabE_ok hz
  have e1 : IntKind.i64.wrap ((l.length : Int) - 1) = (l.length : Int) - 1 := IntWalk.i64_in _ (by omega)
  have e2 : ((l.length : Int) - 1).toNat = l.length - 1 := by omega
  refine G.seq (G.seqR tfine rfl ?_ ?_)
  · rw [e1]
    simp [AllP, condB]
    omega
  rw [e1, e2]
  refine G.cond (b := outR l h) rfl (fun h2 => ?_) (fun h2 => ?_)
  · refine G.seqR tfine rfl trivial ?_
    refine G.ret (endKp.ret rfl ⟨0, ?_⟩)
    rw [readE, if_neg (fne h1), if_pos h2]
  refine G.skip ?_
  have h2' : ¬ h < (l.getD 0 (0, 0)).1 ∧ ¬ h > (l.getD (l.length - 1) (0, 0)).1 := by simpa [outR] using h2
  refine G.seqC tfine rfl trivial ?_
  refine GO.callEx (fun v => ∃ z, v = I z) rfl rfl rfl rfl (fun args w => Try.call52 args w) (fun ρ w hs hok => read1_any A c l tol h w (hs.row (cap := c) rfl (hok _ List.mem_cons_self _ List.mem_cons_self)) hz (by omega)) ?_
  rintro _ ⟨z, rfl⟩
  refine GO.fin tfine rfl trivial ?_
  refine G.ret (endKp.ret rfl ⟨z, ?_⟩)
  rw [readE, if_neg (fne h1), if_neg (fne h2)]
end Go.Proofs.Ytiicemgngccicaa
