/- Chapter 15: the rows of reports of an argument. -/
import Derived.Test.YtiicemgngccicaaMB3
import Derived.WideKeyPair
import Derived.ChangeOld
/- Chapter 15: the reference's check of a table, the reading, and the wet volume. -/
set_option linter.unusedVariables false
set_option linter.unusedSimpArgs false
set_option maxRecDepth 8000
set_option maxHeartbeats 1000000
namespace Go.Proofs.Ytiicemgngccicaa
open Go.Sx Go.RowKit
theorem any_of_false {α : Type} {q : α → Bool} {l : List α} {d : α} (h : ∀ j, j < l.length → q (l.getD j d) = false) : l.any q = false := by
  rw [List.any_eq_false]
  intro x hx
  obtain ⟨i, hi, rfl⟩ := List.mem_iff_getElem.1 hx
  have := h i hi
  rw [List.getD_eq_getElem?_getD, List.getElem?_eq_getElem hi] at this
  simpa using this
theorem any_of_true {α : Type} {q : α → Bool} {l : List α} {d : α} {k : Nat} (hk : k < l.length) (h : q (l.getD k d) = true) : l.any q = true := List.any_eq_true.2 ⟨_, getD_mem hk, h⟩
def badM2 (m : Int × Int) : Bool := (((decide (m.1 < 0)) || (decide (m.1 > 200000))) || (decide (m.2 < 0))) || (decide (m.2 > 4294967296))
theorem badM2_eq (m : Int × Int) : badM2 m = badM m := by
  rw [Bool.eq_iff_iff]
  simp [badM2, badM, dip_Check_1, dip_volume]
  omega
theorem vol_eq (t : Int) : ((decide (t < 0)) || (decide (t > 4294967296))) = !(dip_volume t) := by
  rw [Bool.eq_iff_iff]
  simp [dip_volume]
theorem tabE_ok {l : List (Int × Int)} {tol : Int} (h : tabE l tol = 0) : 2 ≤ l.length ∧ l.length ≤ 128 ∧ (0 ≤ tol ∧ tol ≤ 4294967296) ∧ (∀ j, j < l.length → (0 ≤ (l.getD j (0, 0)).1 ∧ (l.getD j (0, 0)).1 ≤ 200000) ∧ (0 ≤ (l.getD j (0, 0)).2 ∧ (l.getD j (0, 0)).2 ≤ 4294967296)) ∧
    ∀ k, 1 ≤ k → k < l.length → (l.getD (k - 1) (0, 0)).1 < (l.getD k (0, 0)).1 ∧ (l.getD (k - 1) (0, 0)).2 ≤ (l.getD k (0, 0)).2 := by
  unfold tabE at h
  split at h
  · cases h
  rename_i h1
  split at h
  · cases h
  rename_i h2
  split at h
  · cases h
  rename_i h3
  split at h
  · cases h
  rename_i h4
  simp only [decide_eq_true_eq] at h1 h2
  simp only [Bool.or_eq_true, not_or, Bool.not_eq_true', Bool.not_eq_false, Bool.not_eq_true] at h3
  have ht : 0 ≤ tol ∧ tol ≤ 4294967296 := by simpa [dip_volume] using h3.1
  refine ⟨by omega, by omega, ht, fun j hj => ?_, fun k h5 h6 => ?_⟩
  · have := List.any_eq_false.1 h3.2 _ (getD_mem (d := (0, 0)) hj)
    rw [← badM2_eq] at this
    simp [badM2, -List.getD_eq_getElem?_getD] at this
    omega
  · have : badP (l.getD (k - 1) (0, 0)) (l.getD k (0, 0)) = false := by
      cases hb : badP (l.getD (k - 1) (0, 0)) (l.getD k (0, 0)) with
      | false => rfl
      | true => exact absurd (badPs_true h5 h6 hb) h4
    simp [badP, -List.getD_eq_getElem?_getD] at this
    omega
theorem ref13Check_any (A : Option Addr) (c : Nat) (l : List (Int × Int)) (tol : Int) (w : World) (hl : RdRow w A l.length 2 (elM l)) (hm : l.length ≤ 4611686018427387904) :
    Calls Try.prog 33 #[.agg #[.slice A l.length c, I tol]] w fun e w' => e = .returned (I (tabE l tol)) ∧ Below w.heap.size w w' := by
  refine enterPlain tfine Try.func33 rfl 89 Try.ntmps33 [.agg [.inp 1000 A l.length c, .k (I tol)]] [⟨1000, A, 2, l.length, elM l⟩] rfl rfl ⟨hl, trivial⟩ ⟨⟨.inl ⟨rfl, rfl, rfl⟩, trivial, trivial⟩, trivial⟩ ?_
  refine G.seqR tfine rfl trivial ?_
  refine G.seq (G.seqR tfine rfl trivial ?_)
  refine G.cond rfl (fun h1 => ?_) (fun h1 => ?_)
  · refine G.seqR tfine rfl trivial ?_
    refine G.ret (endK.ret rfl ?_)
    rw [tabE, if_pos h1]
  refine G.skip ?_
  refine G.seq (G.seqR tfine rfl trivial ?_)
  refine G.cond rfl (fun h2 => ?_) (fun h2 => ?_)
  · refine G.seqR tfine rfl trivial ?_
    refine G.ret (endK.ret rfl ?_)
    rw [tabE, if_neg (fne h1), if_pos h2]
  refine G.skip ?_
  have h1' := of_decide_eq_false h1
  have h2' := of_decide_eq_false h2
  refine G.seq (G.seqR tfine rfl trivial ?_)
  refine G.block (G.loop (fun k : Nat => St.of [(1, .v (.c (.ptr 1 0 0 0))), (3, .v (.c (.k (I k))))] [(1, .var 24 [.inp 1000 A l.length c, .k (I tol)]), (1000, .ro 2 l.length (elM l))])
    (fun k => k ≤ l.length ∧ ∀ j, j < k → badM (l.getD j (0, 0)) = false) (fun k => l.length - k) 0 ⟨by omega, fun j h5 => by omega⟩
    (St.le_of rfl ⟨⟨_, rfl, Blk.le_refl _⟩, ⟨_, rfl, Blk.le_refl _⟩, trivial⟩ ⟨rfl, rfl, trivial⟩) ?_)
  rintro k ⟨hk2, hpre⟩
  refine G.seq (G.seqR tfine rfl trivial ?_)
  refine G.cond rfl (fun h => ?_) (fun h => ?_)
  · have h := of_decide_eq_true h
    have hlt : k < l.length := by omega
    refine G.skip ?_
    refine G.seq (G.block ?_)
    refine G.seqR tfine rfl ?_ ?_
    · simp [AllP]; omega
    rw [Int.toNat_natCast]
    refine G.seqR tfine rfl ?_ ?_
    · simp [AllP, condB]
    refine G.cond (b := badM2 (l.getD k (0, 0))) rfl (fun h6 => ?_) (fun h6 => ?_)
    · refine G.seqR tfine rfl trivial ?_
      refine G.ret (endK.ret rfl ?_)
      rw [badM2_eq] at h6
      rw [tabE, if_neg (fne h1), if_neg (fne h2), if_pos (by rw [any_of_true hlt h6]; simp)]
    refine G.skip ?_
    refine G.reg tfine rfl trivial ?_
    rw [IntWalk.i64_in ((k : Int) + 1) (by omega)]
    refine ⟨k + 1, ⟨hlt, fun j h8 => ?_⟩, (by show l.length - (k + 1) < l.length - k; omega), St.le_of rfl ⟨⟨_, rfl, Blk.le_refl _⟩, ⟨_, rfl, Blk.le_refl _⟩, trivial⟩ ⟨rfl, rfl, trivial⟩⟩
    by_cases e : j = k
    · rw [e, ← badM2_eq]; exact h6
    · exact hpre j (by omega)
  have h := of_decide_eq_false h
  have hany : l.any badM = false := any_of_false (d := (0, 0)) fun j hj => hpre j (by omega)
  refine G.exit ?_
  refine G.seq (G.seqR tfine rfl ?_ ?_)
  · simp [AllP, condB]
  rw [vol_eq]
  refine G.cond rfl (fun h3 => ?_) (fun h3 => ?_)
  · refine G.seqR tfine rfl trivial ?_
    refine G.ret (endK.ret rfl ?_)
    rw [tabE, if_neg (fne h1), if_neg (fne h2), if_pos (by rw [h3]; rfl)]
  refine G.skip ?_
  have h3' : ¬ (!(dip_volume tol) || l.any badM) = true := by rw [h3, hany]; simp
  refine G.seq (G.seqR tfine rfl trivial ?_)
  refine G.block (G.loop (fun k : Nat => St.of [(1, .v (.c (.ptr 1 0 0 0))), (5, .v (.c (.k (I k))))] [(1, .var 24 [.inp 1000 A l.length c, .k (I tol)]), (1000, .ro 2 l.length (elM l))])
    (fun k => 1 ≤ k ∧ k ≤ l.length ∧ ∀ j, 1 ≤ j → j < k → badP (l.getD (j - 1) (0, 0)) (l.getD j (0, 0)) = false) (fun k => l.length - k) 1 ⟨Nat.le_refl _, by omega, fun j h4 h5 => by omega⟩
    (St.le_of rfl ⟨⟨_, rfl, Blk.le_refl _⟩, ⟨_, rfl, Blk.le_refl _⟩, trivial⟩ ⟨rfl, rfl, trivial⟩) ?_)
  rintro k ⟨hk1, hk2, hpre⟩
  refine G.seq (G.seqR tfine rfl trivial ?_)
  refine G.cond rfl (fun h => ?_) (fun h => ?_)
  rotate_left
  · have h := of_decide_eq_false h
    refine G.exit ?_
    refine G.seqR tfine rfl trivial ?_
    refine G.ret (endK.ret rfl ?_)
    rw [tabE, if_neg (fne h1), if_neg (fne h2), if_neg h3', badPs_false fun j h4 h5 => hpre j h4 (by omega)]
    rfl
  have h := of_decide_eq_true h
  have hlt : k < l.length := by omega
  have e1 : IntKind.i64.wrap ((k : Int) - 1) = (k : Int) - 1 := IntWalk.i64_in _ (by omega)
  have e2 : ((k : Int) - 1).toNat = k - 1 := by omega
  refine G.skip ?_
  refine G.seq (G.block ?_)
  refine G.seqD tfine hmix [0, 1, 0, 4, 15, 31, 63, 0, 128, 0, 896, 1920, 3968, 8191, 16383, 32767, 65535, 32767, 163839, 524287, 1048575, 2097151, 32767, 4227071, 32767, 29392895, 62947327, 130056191, 268435455, 536870911] [] rfl rfl rfl rfl ?_ ?_
  · rw [e1]
    simp [AllP, condB]
    omega
  rw [e1, e2, Int.toNat_natCast]
  refine G.cond (b := badP (l.getD (k - 1) (0, 0)) (l.getD k (0, 0))) rfl (fun h6 => ?_) (fun h6 => ?_)
  · refine G.seqR tfine rfl trivial ?_
    refine G.ret (endK.ret rfl ?_)
    rw [tabE, if_neg (fne h1), if_neg (fne h2), if_neg h3', badPs_true hk1 hlt h6]
    rfl
  refine G.skip ?_
  refine G.reg tfine rfl trivial ?_
  rw [IntWalk.i64_in ((k : Int) + 1) (by omega)]
  refine ⟨k + 1, ⟨by omega, hlt, fun j h7 h8 => ?_⟩, (by show l.length - (k + 1) < l.length - k; omega), St.le_of rfl ⟨⟨_, rfl, Blk.le_refl _⟩, ⟨_, rfl, Blk.le_refl _⟩, trivial⟩ ⟨rfl, rfl, trivial⟩⟩
  by_cases e : j = k
  · rw [e]; exact h6
  · exact hpre j h7 (by omega)
/-! ### The reading -/
theorem read1_any (A : Option Addr) (c : Nat) (l : List (Int × Int)) (tol h : Int) (w : World) (hl : RdRow w A l.length 2 (elM l)) (hz : tabE l tol = 0) (hh : h ≤ (l.getD (l.length - 1) (0, 0)).1) :
    Calls Try.prog 52 #[.agg #[.slice A l.length c, I tol], I h] w fun e w' => ∃ v, e = .returned v ∧ (∃ z, v = I z) ∧ Below w.heap.size w w' := by
  obtain ⟨q1, q2, q3, q4, q5⟩ := tabE_ok hz
  refine enterProp tfine (fun v => ∃ z, v = I z) Try.func52 rfl 48 Try.ntmps52 [.agg [.inp 1000 A l.length c, .k (I tol)], .c (.k (I h))] [⟨1000, A, 2, l.length, elM l⟩] rfl rfl ⟨hl, trivial⟩ ⟨⟨.inl ⟨rfl, rfl, rfl⟩, trivial, trivial⟩, trivial, trivial⟩ ?_
  refine G.seqR tfine rfl trivial ?_
  refine G.seqR tfine rfl trivial ?_
  refine G.seq (G.block (G.loop (fun k : Nat => St.of [(1, .v (.c (.k (I h)))), (2, .v (.c (.ptr 2 0 0 0))), (5, .v (.c (.k (I k))))] [(2, .var 24 [.inp 1000 A l.length c, .k (I tol)]), (1000, .ro 2 l.length (elM l))])
    (fun k => 1 ≤ k ∧ k < l.length) (fun k => l.length - k) 1 ⟨Nat.le_refl _, by omega⟩
    (St.le_of rfl ⟨⟨_, rfl, Blk.le_refl _⟩, ⟨_, rfl, Blk.le_refl _⟩, trivial⟩ ⟨rfl, rfl, rfl, trivial⟩) ?_))
  rintro k ⟨hk1, hk2⟩
  have e1 : IntKind.i64.wrap ((k : Int) - 1) = (k : Int) - 1 := IntWalk.i64_in _ (by omega)
  have e2 : ((k : Int) - 1).toNat = k - 1 := by omega
  refine G.seq (G.seqR tfine rfl ?_ ?_)
  · simp [AllP]; omega
  rw [Int.toNat_natCast]
  refine G.cond rfl (fun h6 => ?_) (fun h6 => ?_)
  · have h6 := of_decide_eq_true h6
    refine G.skip ?_
    refine G.block ?_
    refine G.reg tfine rfl trivial ?_
    rw [IntWalk.i64_in ((k : Int) + 1) (by omega)]
    have : k ≠ l.length - 1 := fun e => by rw [← e] at hh; omega
    exact ⟨k + 1, ⟨by omega, by omega⟩, (by show l.length - (k + 1) < l.length - k; omega), St.le_of rfl ⟨⟨_, rfl, Blk.le_refl _⟩, ⟨_, rfl, Blk.le_refl _⟩, trivial⟩ ⟨rfl, rfl, rfl, trivial⟩⟩
  refine G.exit ?_
  refine G.seqD tfine hmix [0, 1, 0, 4, 15, 31, 0, 64, 0, 448, 960, 0, 0, 6207, 16383] [(13, 6), (14, 7)] rfl rfl rfl rfl ?_ ?_
  · rw [e1]
    simp [AllP]
    omega
  rw [e1, e2, Int.toNat_natCast]
  have hd := q5 k hk1 hk2
  have m1 := (q4 k hk2).1
  have m2 := (q4 (k - 1) (by omega)).1
  refine G.seqD tfine hmix [0, 1, 0, 4, 0, 16, 60, 0, 0, 256, 896, 2044, 0, 4096, 0, 16384, 61440, 131068, 262143, 524287] [] rfl rfl rfl rfl ?_ ?_
  · simp only [AllP, and_true]
    rw [IntWalk.i64_in ((l.getD k (0, 0)).1 - (l.getD (k - 1) (0, 0)).1) (by omega)]
    omega
  exact G.ret (endKp.ret rfl ⟨_, rfl⟩)
def outR (l : List (Int × Int)) (h : Int) : Bool := (decide (h < (l.getD 0 (0, 0)).1)) || (decide (h > (l.getD (l.length - 1) (0, 0)).1))
def readE (l : List (Int × Int)) (tol h : Int) : Int := if (tabE l tol != 0) = true then 1 else if outR l h = true then 2 else 0
theorem read_any (A : Option Addr) (c : Nat) (l : List (Int × Int)) (tol h : Int) (w : World) (hl : RdRow w A l.length 2 (elM l)) (hm : l.length ≤ 4611686018427387904) :
    Calls Try.prog 32 #[.agg #[.slice A l.length c, I tol], I h] w fun e w' => ∃ v, e = .returned v ∧ (∃ z, v = .tuple #[I z, I (readE l tol h)]) ∧ Below w.heap.size w w' := by
  refine enterProp tfine (fun v => ∃ z, v = .tuple #[I z, I (readE l tol h)]) Try.func32 rfl 32 Try.ntmps32 [.agg [.inp 1000 A l.length c, .k (I tol)], .c (.k (I h))] [⟨1000, A, 2, l.length, elM l⟩] rfl rfl ⟨hl, trivial⟩ ⟨⟨.inl ⟨rfl, rfl, rfl⟩, trivial, trivial⟩, trivial, trivial⟩ ?_
  refine G.seqR tfine rfl trivial ?_
  refine G.seq (G.seqC tfine rfl trivial ?_)
  refine GO.callPlain (v := I (tabE l tol)) rfl rfl rfl rfl (fun args w => Try.call34 args w) (fun ρ w hs hok => dipCheck_any A c l tol w (hs.row (cap := c) rfl (hok _ List.mem_cons_self _ List.mem_cons_self)) hm) ?_
  refine GO.fin tfine rfl trivial ?_
  refine G.cond rfl (fun h1 => ?_) (fun h1 => ?_)
  · refine G.seqR tfine rfl trivial ?_
    refine G.ret (endKp.ret rfl ⟨0, ?_⟩)
    rw [readE, if_pos h1]
  refine G.skip ?_
  have hz : tabE l tol = 0 := by simpa using h1
  obtain ⟨q1, q2, q3, q4, q5⟩ := tabE_ok hz
  have e1 : IntKind.i64.wrap ((l.length : Int) - 1) = (l.length : Int) - 1 := IntWalk.i64_in _ (by omega)
  have e2 : ((l.length : Int) - 1).toNat = l.length - 1 := by omega
  refine G.seq (G.seqR tfine rfl ?_ ?_)
  · rw [e1]
    simp [AllP, condB]
    omega
  rw [e1, e2]
  refine G.cond (b := outR l h) rfl (fun h2 => ?_) (fun h2 => ?_)
  · refine G.seqR tfine rfl trivial ?_
    refine G.ret (endKp.ret rfl ⟨0, ?_⟩)
    rw [readE, if_neg (fne h1), if_pos h2]
  refine G.skip ?_
  have h2' : ¬ h < (l.getD 0 (0, 0)).1 ∧ ¬ h > (l.getD (l.length - 1) (0, 0)).1 := by simpa [outR] using h2
  refine G.seqC tfine rfl trivial ?_
  refine GO.callEx (fun v => ∃ z, v = I z) rfl rfl rfl rfl (fun args w => Try.call52 args w) (fun ρ w hs hok => read1_any A c l tol h w (hs.row (cap := c) rfl (hok _ List.mem_cons_self _ List.mem_cons_self)) hz (by omega)) ?_
  rintro _ ⟨z, rfl⟩
  refine GO.fin tfine rfl trivial ?_
  refine G.ret (endKp.ret rfl ⟨z, ?_⟩)
  rw [readE, if_neg (fne h1), if_neg (fne h2)]
end Go.Proofs.Ytiicemgngccicaa
/- Chapter 15: the bounds of the wet volume. -/
set_option linter.unusedVariables false
set_option linter.unusedSimpArgs false
set_option maxRecDepth 8000
set_option maxHeartbeats 1000000
namespace Go.Proofs.Ytiicemgngccicaa
open Go.Sx Go.RowKit
def idx (l : List (Int × Int)) (h : Int) : Nat := l.findIdx fun m => decide (m.1 ≥ h)
theorem idx_of {l : List (Int × Int)} {h : Int} {k : Nat} (hk : k < l.length) (h1 : h ≤ (l.getD k (0, 0)).1) (h2 : ∀ j, j < k → (l.getD j (0, 0)).1 < h) : idx l h = k := by
  have e : ∀ j (hj : j < l.length), l.getD j (0, 0) = l[j] := fun j hj => by rw [List.getD_eq_getElem?_getD, List.getElem?_eq_getElem hj]; rfl
  rw [e k hk] at h1
  have hlt : idx l h < l.length := List.findIdx_lt_length_of_exists ⟨l[k], List.getElem_mem hk, by simpa using h1⟩
  rcases Nat.lt_trichotomy (idx l h) k with h3 | h3 | h3
  · have h4 := h2 _ h3
    rw [e _ hlt] at h4
    have := List.findIdx_getElem (p := fun m : Int × Int => decide (m.1 ≥ h)) (w := hlt)
    have := of_decide_eq_true this
    simp only [idx] at h4
    omega
  · exact h3
  · have := List.not_of_lt_findIdx h3
    simp at this
    omega
def wet3 (l : List (Int × Int)) (tol h : Int) : Int × Int × Int := if (readE l tol h != 0) = true then (0, 0, readE l tol h) else ((if (l.getD (idx l h) (0, 0)).1 ≤ h then (l.getD (idx l h) (0, 0)).2 else (l.getD (idx l h - 1) (0, 0)).2), (l.getD (idx l h) (0, 0)).2 + tol, 0)
theorem readE_ok {l : List (Int × Int)} {tol h : Int} (hz : readE l tol h = 0) : tabE l tol = 0 ∧ (l.getD 0 (0, 0)).1 ≤ h ∧ h ≤ (l.getD (l.length - 1) (0, 0)).1 := by
  unfold readE at hz
  split at hz
  · cases hz
  rename_i h1
  split at hz
  · cases hz
  rename_i h2
  have h2' : ¬ h < (l.getD 0 (0, 0)).1 ∧ ¬ h > (l.getD (l.length - 1) (0, 0)).1 := by simpa [outR] using h2
  exact ⟨by simpa using h1, by omega, by omega⟩
def lowI (l : List (Int × Int)) (k : Nat) : Int := if k = 0 then 0 else (l.getD (k - 1) (0, 0)).2
theorem wet_any (A : Option Addr) (c : Nat) (l : List (Int × Int)) (tol h : Int) (w : World) (hl : RdRow w A l.length 2 (elM l)) (hm : l.length ≤ 4611686018427387904) :
    Calls Try.prog 11 #[.agg #[.slice A l.length c, I tol], I h] w fun e w' => e = .returned (.tuple #[.agg #[I (wet3 l tol h).1, I (wet3 l tol h).2.1], I (wet3 l tol h).2.2]) ∧ Below w.heap.size w w' := by
  refine enterPlain tfine Try.func11 rfl 47 Try.ntmps11 [.agg [.inp 1000 A l.length c, .k (I tol)], .c (.k (I h))] [⟨1000, A, 2, l.length, elM l⟩] rfl rfl ⟨hl, trivial⟩ ⟨⟨.inl ⟨rfl, rfl, rfl⟩, trivial, trivial⟩, trivial, trivial⟩ ?_
  refine G.seqR tfine rfl trivial ?_
  refine G.seq (G.seqC tfine rfl trivial ?_)
  refine GO.callEx (fun v => ∃ z, v = .tuple #[I z, I (readE l tol h)]) rfl rfl rfl rfl (fun args w => Try.call32 args w) (fun ρ w hs hok => read_any A c l tol h w (hs.row (cap := c) rfl (hok _ List.mem_cons_self _ List.mem_cons_self)) hm) ?_
  rintro _ ⟨z, rfl⟩
  refine GO.fin tfine rfl trivial ?_
  refine G.seqR tfine rfl trivial ?_
  refine G.cond rfl (fun h1 => ?_) (fun h1 => ?_)
  · refine G.seqR tfine rfl trivial ?_
    refine G.ret (endK.ret rfl ?_)
    rw [wet3, if_pos h1]
  refine G.skip ?_
  have hz : readE l tol h = 0 := by simpa using h1
  obtain ⟨ht, hlo, hhi⟩ := readE_ok hz
  obtain ⟨q1, q2, q3, q4, q5⟩ := tabE_ok ht
  refine G.seqR tfine rfl trivial ?_
  refine G.seq (G.seqR tfine rfl trivial ?_)
  refine G.block (G.loop (fun k : Nat => St.of [(1, .v (.c (.k (I h)))), (2, .v (.c (.ptr 2 0 0 0))), (4, .v (.c (.ptr 4 0 0 0))), (5, .v (.c (.k (I 0)))), (8, .v (.c (.ptr 8 0 0 0))), (22, .v (.c (.inp 1000 A l.length c))), (23, .v (.c (.k (I l.length)))), (24, .v (.c (.k (I k))))]
      [(2, .var 24 [.inp 1000 A l.length c, .k (I tol)]), (4, .var 30 [.k (I 0), .k (I 0)]), (8, .var 30 [.k (I (lowI l k)), .k (I 0)]), (1000, .ro 2 l.length (elM l))])
    (fun k => k ≤ l.length ∧ ∀ j, j < k → (l.getD j (0, 0)).1 < h) (fun k => l.length - k) 0 ⟨by omega, fun j h5 => by omega⟩
    (St.le_of rfl ⟨⟨_, rfl, Blk.le_refl _⟩, ⟨_, rfl, Blk.le_refl _⟩, ⟨_, rfl, Blk.le_refl _⟩, ⟨_, rfl, Blk.le_refl _⟩, trivial⟩ ⟨rfl, rfl, rfl, rfl, rfl, rfl, rfl, rfl, trivial⟩) ?_)
  rintro k ⟨hk2, hpre⟩
  refine G.seqR tfine rfl trivial ?_
  refine G.seq (G.cond rfl (fun h2 => ?_) (fun h2 => ?_))
  rotate_left
  · have h2 := of_decide_eq_false h2
    have := hpre (l.length - 1) (by omega)
    omega
  have h2 := of_decide_eq_true h2
  have hlt : k < l.length := by omega
  have hb := q4 k hlt
  refine G.skip ?_
  refine G.seq (G.block ?_)
  refine G.seqR tfine rfl ?_ ?_
  · simp [AllP]; omega
  rw [Int.toNat_natCast]
  refine G.seq (G.seqR tfine rfl trivial ?_)
  have fin : ¬ (l.getD k (0, 0)).1 < h → wet3 l tol h = ((if (l.getD k (0, 0)).1 ≤ h then (l.getD k (0, 0)).2 else (l.getD (k - 1) (0, 0)).2), (l.getD k (0, 0)).2 + tol, 0) := by
    intro h6
    rw [wet3, if_neg (fne h1), idx_of hlt (by omega) hpre]
  refine G.cond rfl (fun h3 => ?_) (fun h3 => ?_)
  · refine G.reg tfine rfl trivial ?_
    have h3 := of_decide_eq_true h3
    refine G.seqR tfine rfl trivial ?_
    refine G.cond rfl (fun h4 => ?_) (fun h4 => ?_)
    · have h4 := of_decide_eq_true h4
      refine G.seqR tfine rfl trivial ?_
      rw [IntWalk.i64_in ((l.getD k (0, 0)).2 + tol) (by omega)]
      refine G.exit ?_
      refine G.seqR tfine rfl trivial ?_
      refine G.ret (endK.ret rfl ?_)
      rw [fin (by omega), if_pos h3]
    · have h4 := of_decide_eq_false h4
      refine G.skip ?_
      refine G.reg tfine rfl trivial ?_
      rw [IntWalk.i64_in ((k : Int) + 1) (by omega)]
      refine ⟨k + 1, ⟨hlt, fun j h8 => ?_⟩, (by show l.length - (k + 1) < l.length - k; omega), St.le_of rfl ⟨⟨_, rfl, Blk.le_refl _⟩, ⟨_, rfl, Blk.le_refl _⟩, ⟨_, rfl, Blk.le_refl _⟩, ⟨_, rfl, Blk.le_refl _⟩, trivial⟩ ⟨rfl, rfl, rfl, rfl, rfl, rfl, rfl, rfl, trivial⟩⟩
      by_cases e : j = k
      · rw [e]; omega
      · exact hpre j (by omega)
  · refine G.skip ?_
    have h3 := of_decide_eq_false h3
    refine G.seqR tfine rfl trivial ?_
    refine G.cond rfl (fun h4 => ?_) (fun h4 => ?_)
    · refine G.seqR tfine rfl trivial ?_
      rw [IntWalk.i64_in ((l.getD k (0, 0)).2 + tol) (by omega)]
      refine G.exit ?_
      refine G.seqR tfine rfl trivial ?_
      refine G.ret (endK.ret rfl ?_)
      have hk0 : k ≠ 0 := fun e => by subst e; omega
      rw [fin (by omega), if_neg h3, lowI, if_neg hk0]
    · have h4 := of_decide_eq_false h4
      omega
theorem refWet_any (A : Option Addr) (c : Nat) (l : List (Int × Int)) (tol h : Int) (w : World) (hl : RdRow w A l.length 2 (elM l)) (hm : l.length ≤ 4611686018427387904) :
    Calls Try.prog 13 #[.agg #[.slice A l.length c, I tol], I h] w fun e w' => e = .returned (.tuple #[.agg #[I (wet3 l tol h).1, I (wet3 l tol h).2.1], I (wet3 l tol h).2.2]) ∧ Below w.heap.size w w' := by
  refine enterPlain tfine Try.func13 rfl 76 Try.ntmps13 [.agg [.inp 1000 A l.length c, .k (I tol)], .c (.k (I h))] [⟨1000, A, 2, l.length, elM l⟩] rfl rfl ⟨hl, trivial⟩ ⟨⟨.inl ⟨rfl, rfl, rfl⟩, trivial, trivial⟩, trivial, trivial⟩ ?_
  refine G.seqR tfine rfl trivial ?_
  refine G.seq (G.seqC tfine rfl trivial ?_)
  refine GO.callPlain (v := I (tabE l tol)) rfl rfl rfl rfl (fun args w => Try.call33 args w) (fun ρ w hs hok => ref13Check_any A c l tol w (hs.row (cap := c) rfl (hok _ List.mem_cons_self _ List.mem_cons_self)) hm) ?_
  refine GO.fin tfine rfl trivial ?_
  refine G.cond rfl (fun h1 => ?_) (fun h1 => ?_)
  · refine G.seqR tfine rfl trivial ?_
    refine G.ret (endK.ret rfl ?_)
    have : readE l tol h = 1 := by rw [readE, if_pos h1]
    rw [wet3, this]; rfl
  refine G.skip ?_
  have ht : tabE l tol = 0 := by simpa using h1
  obtain ⟨q1, q2, q3, q4, q5⟩ := tabE_ok ht
  have e1 : IntKind.i64.wrap ((l.length : Int) - 1) = (l.length : Int) - 1 := IntWalk.i64_in _ (by omega)
  have e2 : ((l.length : Int) - 1).toNat = l.length - 1 := by omega
  refine G.seq (G.seqR tfine rfl ?_ ?_)
  · rw [e1]
    simp [AllP, condB]
    omega
  rw [e1, e2]
  refine G.cond (b := outR l h) rfl (fun h2 => ?_) (fun h2 => ?_)
  · refine G.seqR tfine rfl trivial ?_
    refine G.ret (endK.ret rfl ?_)
    have : readE l tol h = 2 := by rw [readE, if_neg (fne h1), if_pos h2]
    rw [wet3, this]; rfl
  refine G.skip ?_
  have hz : readE l tol h = 0 := by rw [readE, if_neg (fne h1), if_neg (fne h2)]
  obtain ⟨_, hlo, hhi⟩ := readE_ok hz
  refine G.seqR tfine rfl trivial ?_
  refine G.seq (G.block (G.loop (fun k : Nat => St.of [(1, .v (.c (.k (I h)))), (2, .v (.c (.ptr 2 0 0 0))), (4, .v (.c (.ptr 4 0 0 0))), (5, .v (.c (.k (I 0)))), (6, .v (.c (.k (I k))))]
      [(2, .var 24 [.inp 1000 A l.length c, .k (I tol)]), (4, .var 30 [.k (I 0), .k (I 0)]), (1000, .ro 2 l.length (elM l))])
    (fun k => k < l.length ∧ ∀ j, j < k → (l.getD j (0, 0)).1 < h) (fun k => l.length - k) 0 ⟨by omega, fun j h5 => by omega⟩
    (St.le_of rfl ⟨⟨_, rfl, Blk.le_refl _⟩, ⟨_, rfl, Blk.le_refl _⟩, ⟨_, rfl, Blk.le_refl _⟩, trivial⟩ ⟨rfl, rfl, rfl, rfl, rfl, trivial⟩) ?_))
  rintro k ⟨hlt, hpre⟩
  have hb := q4 k hlt
  refine G.seq (G.seqR tfine rfl ?_ ?_)
  · simp [AllP]; omega
  rw [Int.toNat_natCast]
  refine G.cond rfl (fun h6 => ?_) (fun h6 => ?_)
  · have h6 := of_decide_eq_true h6
    refine G.skip ?_
    refine G.block ?_
    refine G.reg tfine rfl trivial ?_
    rw [IntWalk.i64_in ((k : Int) + 1) (by omega)]
    have : k ≠ l.length - 1 := fun e => by rw [← e] at hhi; omega
    refine ⟨k + 1, ⟨by omega, fun j h8 => ?_⟩, (by show l.length - (k + 1) < l.length - k; omega), St.le_of rfl ⟨⟨_, rfl, Blk.le_refl _⟩, ⟨_, rfl, Blk.le_refl _⟩, ⟨_, rfl, Blk.le_refl _⟩, trivial⟩ ⟨rfl, rfl, rfl, rfl, rfl, trivial⟩⟩
    by_cases e : j = k
    · rw [e]; omega
    · exact hpre j (by omega)
  have h6 := of_decide_eq_false h6
  have fin : wet3 l tol h = ((if (l.getD k (0, 0)).1 ≤ h then (l.getD k (0, 0)).2 else (l.getD (k - 1) (0, 0)).2), (l.getD k (0, 0)).2 + tol, 0) := by
    rw [wet3, if_neg (by rw [hz]; decide), idx_of hlt (by omega) hpre]
  refine G.exit ?_
  refine G.seqD tfine hmix [0, 1, 0, 7, 15, 31, 0, 64, 0, 448, 960, 1984, 0, 4096, 16320, 32767, 0, 131071] [(17, 7)] rfl rfl rfl rfl ?_ ?_
  · simp [AllP]
    omega
  rw [Int.toNat_natCast, IntWalk.i64_in ((l.getD k (0, 0)).2 + tol) (by omega)]
  refine G.seq (G.seqR tfine rfl ?_ ?_)
  · simp [AllP]
    omega
  rw [Int.toNat_natCast]
  refine G.cond rfl (fun h7 => ?_) (fun h7 => ?_)
  · have h7 := of_decide_eq_true h7
    have hk0 : k ≠ 0 := fun e => by subst e; omega
    have e3 : IntKind.i64.wrap ((k : Int) - 1) = (k : Int) - 1 := IntWalk.i64_in _ (by omega)
    have e4 : ((k : Int) - 1).toNat = k - 1 := by omega
    refine G.reg tfine rfl ?_ ?_
    · rw [e3]
      simp [AllP]
      omega
    rw [e3, e4]
    refine G.seqR tfine rfl trivial ?_
    refine G.ret (endK.ret rfl ?_)
    rw [fin, if_neg (by omega)]
  · have h7 := of_decide_eq_false h7
    refine G.skip ?_
    refine G.seqR tfine rfl trivial ?_
    refine G.ret (endK.ret rfl ?_)
    rw [fin, if_pos (by omega)]
end Go.Proofs.Ytiicemgngccicaa
/- Chapter 15: the report of a reading, of the program and of the reference. -/
set_option linter.unusedVariables false
set_option linter.unusedSimpArgs false
set_option maxRecDepth 8000
set_option maxHeartbeats 1000000
namespace Go.Proofs.Ytiicemgngccicaa
open Go.Sx Go.RowKit
def gauge_Report (l0_0 : List (Int × Int)) (x0_1 : Int) (x1_0 : Int) (x1_1 : Int) (x1_2 : Int) (x1_3 : Int) (x2 : Int) : Int × Int × Int × Int × Int × Int × Int × Int × Int := if ((tabE l0_0 x0_1) != (0 : Int)) = true then ((0 : Int), (0 : Int), (0 : Int), (0 : Int), (0 : Int), (0 : Int), (0 : Int), (0 : Int), (1 : Int)) else if (((((wet3 l0_0 x0_1 x1_1).2.2) != (0 : Int)) || ((gauge_Check x1_0 x1_1 x1_2 x1_3) != (0 : Int))) || (!(gauge_in x2 (0 : Int) (10000 : Int)))) = true then ((0 : Int), (0 : Int), (0 : Int), (0 : Int), (0 : Int), (0 : Int), (0 : Int), (0 : Int), (2 : Int)) else if (((btw3 ((wet3 l0_0 x0_1 x1_1).1) ((wet3 l0_0 x0_1 x1_1).2.1) x1_2 x1_2 x2).2.2) != (0 : Int)) = true then ((0 : Int), (0 : Int), (0 : Int), (0 : Int), (0 : Int), (0 : Int), (0 : Int), (0 : Int), (btw3 ((wet3 l0_0 x0_1 x1_1).1) ((wet3 l0_0 x0_1 x1_1).2.1) x1_2 x1_2 x2).2.2) else (x1_0, x1_1, x1_2, x1_3, (btw3 ((wet3 l0_0 x0_1 x1_1).1) ((wet3 l0_0 x0_1 x1_1).2.1) x1_2 x1_2 x2).1, (btw3 ((wet3 l0_0 x0_1 x1_1).1) ((wet3 l0_0 x0_1 x1_1).2.1) x1_2 x1_2 x2).2.1, (gauge_times ((btw3 ((wet3 l0_0 x0_1 x1_1).1) ((wet3 l0_0 x0_1 x1_1).2.1) x1_2 x1_2 x2).1) ((btw3 ((wet3 l0_0 x0_1 x1_1).1) ((wet3 l0_0 x0_1 x1_1).2.1) x1_2 x1_2 x2).2.1) x1_3).1, (gauge_times ((btw3 ((wet3 l0_0 x0_1 x1_1).1) ((wet3 l0_0 x0_1 x1_1).2.1) x1_2 x1_2 x2).1) ((btw3 ((wet3 l0_0 x0_1 x1_1).1) ((wet3 l0_0 x0_1 x1_1).2.1) x1_2 x1_2 x2).2.1) x1_3).2, (0 : Int))
theorem gauge_Report_any (A0_0 : Option Addr) (c0_0 : Nat) (l0_0 : List (Int × Int)) (x0_1 : Int) (x1_0 : Int) (x1_1 : Int) (x1_2 : Int) (x1_3 : Int) (x2 : Int) (w : World) (hl_l0_0 : RdRow w A0_0 l0_0.length 2 (elM l0_0)) (hm_l0_0 : l0_0.length ≤ 4611686018427387904) : Calls Try.prog 14 #[.agg #[.slice A0_0 l0_0.length c0_0, I x0_1], .agg #[I x1_0, I x1_1, I x1_2, I x1_3], I x2] w fun e w' => e = .returned (.tuple #[.agg #[I ((gauge_Report l0_0 x0_1 x1_0 x1_1 x1_2 x1_3 x2).1), I ((gauge_Report l0_0 x0_1 x1_0 x1_1 x1_2 x1_3 x2).2.1), I ((gauge_Report l0_0 x0_1 x1_0 x1_1 x1_2 x1_3 x2).2.2.1), I ((gauge_Report l0_0 x0_1 x1_0 x1_1 x1_2 x1_3 x2).2.2.2.1), I ((gauge_Report l0_0 x0_1 x1_0 x1_1 x1_2 x1_3 x2).2.2.2.2.1), I ((gauge_Report l0_0 x0_1 x1_0 x1_1 x1_2 x1_3 x2).2.2.2.2.2.1), I ((gauge_Report l0_0 x0_1 x1_0 x1_1 x1_2 x1_3 x2).2.2.2.2.2.2.1), I ((gauge_Report l0_0 x0_1 x1_0 x1_1 x1_2 x1_3 x2).2.2.2.2.2.2.2.1)], I ((gauge_Report l0_0 x0_1 x1_0 x1_1 x1_2 x1_3 x2).2.2.2.2.2.2.2.2)]) ∧ Below w.heap.size w w' := by
  refine enterPlain tfine Try.func14 rfl 57 Try.ntmps14 [.agg [.inp 1000 A0_0 l0_0.length c0_0, .k (I x0_1)], .agg [.k (I x1_0), .k (I x1_1), .k (I x1_2), .k (I x1_3)], .c (.k (I x2))] [⟨1000, A0_0, 2, l0_0.length, elM l0_0⟩] rfl rfl ⟨hl_l0_0, trivial⟩ ⟨⟨.inl ⟨rfl, rfl, rfl⟩, trivial, trivial⟩, ⟨trivial, trivial, trivial, trivial, trivial⟩, trivial, trivial⟩ ?_
  refine G.seqR tfine rfl ?_ ?_
  · first | trivial | (simp [AllP, condB]; done) | (simp only [AllP]; and_intros <;> first | trivial | decide | omega) | (simp [AllP, condB]; intros; and_intros <;> first | assumption | omega)
  refine G.seq ?_
  refine G.seqC tfine rfl ?_ ?_
  · first | trivial | (simp [AllP, condB]; done) | (simp only [AllP]; and_intros <;> first | trivial | decide | omega) | (simp [AllP, condB]; intros; and_intros <;> first | assumption | omega)
  refine GO.callPlain (v := I (tabE l0_0 x0_1))  rfl rfl rfl rfl (fun args w => Try.call34 args w) (fun ρ w hs hok => dipCheck_any A0_0 c0_0 l0_0 _ w (hs.row (cap := c0_0) rfl (hok _ List.mem_cons_self _ List.mem_cons_self)) hm_l0_0) ?_
  refine GO.fin tfine rfl ?_ ?_
  · first | trivial | (simp [AllP, condB]; done) | (simp only [AllP]; and_intros <;> first | trivial | decide | omega) | (simp [AllP, condB]; intros; and_intros <;> first | assumption | omega)
  refine G.cond (b := (tabE l0_0 x0_1) != (0 : Int)) rfl (fun h1 => ?_) (fun h1 => ?_)
  · refine G.seqR tfine rfl ?_ ?_
    · first | trivial | (simp [AllP, condB]; done) | (simp only [AllP]; and_intros <;> first | trivial | decide | omega) | (simp [AllP, condB]; intros; and_intros <;> first | assumption | omega)
    refine G.ret (endK.ret rfl ?_)
    first | (rw [gauge_Report, if_pos h1]; done) | (rw [gauge_Report, if_pos h1]; rfl)
  refine G.skip ?_
  refine G.seqC tfine rfl ?_ ?_
  · first | trivial | (simp [AllP, condB]; done) | (simp only [AllP]; and_intros <;> first | trivial | decide | omega) | (simp [AllP, condB]; intros; and_intros <;> first | assumption | omega)
  refine GO.callPlain (v := .tuple #[.agg #[I ((wet3 l0_0 x0_1 x1_1).1), I ((wet3 l0_0 x0_1 x1_1).2.1)], I ((wet3 l0_0 x0_1 x1_1).2.2)])  rfl rfl rfl rfl (fun args w => Try.call11 args w) (fun ρ w hs hok => wet_any A0_0 c0_0 l0_0 _ _ w (hs.row (cap := c0_0) rfl (hok _ List.mem_cons_self _ List.mem_cons_self)) hm_l0_0) ?_
  refine GO.fin tfine rfl ?_ ?_
  · first | trivial | (simp [AllP, condB]; done) | (simp only [AllP]; and_intros <;> first | trivial | decide | omega) | (simp [AllP, condB]; intros; and_intros <;> first | assumption | omega)
  refine G.seq ?_
  refine G.seqC tfine rfl ?_ ?_
  · first | trivial | (simp [AllP, condB]; done) | (simp only [AllP]; and_intros <;> first | trivial | decide | omega) | (simp [AllP, condB]; intros; and_intros <;> first | assumption | omega)
  refine GO.callGuard (I (gauge_Check x1_0 x1_1 x1_2 x1_3)) rfl rfl rfl (by first | exact trivial | exact ⟨id, trivial⟩ | exact ⟨id, id, trivial⟩ | exact ⟨id, id, id, trivial⟩ | exact ⟨id, id, id, id, trivial⟩) rfl rfl (fun args w => Try.call16 args w) rfl (fun _ m' hle ρ w hs hok => gauge_Check_any _ _ _ _ w) ?_
  refine GO.more tfine rfl ?_ ?_
  · first | trivial | (simp [AllP, condB]; done) | (simp only [AllP]; and_intros <;> first | trivial | decide | omega) | (simp [AllP, condB]; intros; and_intros <;> first | assumption | omega)
  refine GO.callGuard (.bool (gauge_in x2 (0 : Int) (10000 : Int))) rfl rfl rfl (by first | exact trivial | exact ⟨id, trivial⟩ | exact ⟨id, id, trivial⟩ | exact ⟨id, id, id, trivial⟩ | exact ⟨id, id, id, id, trivial⟩) rfl rfl (fun args w => Try.call35 args w) rfl (fun _ m' hle ρ w hs hok => gauge_in_any _ _ _ w) ?_
  refine GO.fin tfine rfl ?_ ?_
  · first | trivial | (simp [AllP, condB]; done) | (simp only [AllP]; and_intros <;> first | trivial | decide | omega) | (simp [AllP, condB]; intros; and_intros <;> first | assumption | omega)
  refine G.cond (b := ((((wet3 l0_0 x0_1 x1_1).2.2) != (0 : Int)) || ((gauge_Check x1_0 x1_1 x1_2 x1_3) != (0 : Int))) || (!(gauge_in x2 (0 : Int) (10000 : Int)))) rfl (fun h2 => ?_) (fun h2 => ?_)
  · refine G.seqR tfine rfl ?_ ?_
    · first | trivial | (simp [AllP, condB]; done) | (simp only [AllP]; and_intros <;> first | trivial | decide | omega) | (simp [AllP, condB]; intros; and_intros <;> first | assumption | omega)
    refine G.ret (endK.ret rfl ?_)
    first | (rw [gauge_Report, if_neg (fne h1), if_pos h2]; done) | (rw [gauge_Report, if_neg (fne h1), if_pos h2]; rfl)
  refine G.skip ?_
  refine G.seqC tfine rfl ?_ ?_
  · first | trivial | (simp [AllP, condB]; done) | (simp only [AllP]; and_intros <;> first | trivial | decide | omega) | (simp [AllP, condB]; intros; and_intros <;> first | assumption | omega)
  refine GO.callPlain (v := .tuple #[.agg #[I ((btw3 ((wet3 l0_0 x0_1 x1_1).1) ((wet3 l0_0 x0_1 x1_1).2.1) x1_2 x1_2 x2).1), I ((btw3 ((wet3 l0_0 x0_1 x1_1).1) ((wet3 l0_0 x0_1 x1_1).2.1) x1_2 x1_2 x2).2.1)], I ((btw3 ((wet3 l0_0 x0_1 x1_1).1) ((wet3 l0_0 x0_1 x1_1).2.1) x1_2 x1_2 x2).2.2)])  rfl rfl rfl rfl (fun args w => Try.call36 args w) (fun ρ w hs hok => between_any _ _ _ _ _ w) ?_
  refine GO.fin tfine rfl ?_ ?_
  · first | trivial | (simp [AllP, condB]; done) | (simp only [AllP]; and_intros <;> first | trivial | decide | omega) | (simp [AllP, condB]; intros; and_intros <;> first | assumption | omega)
  refine G.seq ?_
  refine G.seqR tfine rfl ?_ ?_
  · first | trivial | (simp [AllP, condB]; done) | (simp only [AllP]; and_intros <;> first | trivial | decide | omega) | (simp [AllP, condB]; intros; and_intros <;> first | assumption | omega)
  refine G.cond (b := ((btw3 ((wet3 l0_0 x0_1 x1_1).1) ((wet3 l0_0 x0_1 x1_1).2.1) x1_2 x1_2 x2).2.2) != (0 : Int)) rfl (fun h3 => ?_) (fun h3 => ?_)
  · refine G.seqR tfine rfl ?_ ?_
    · first | trivial | (simp [AllP, condB]; done) | (simp only [AllP]; and_intros <;> first | trivial | decide | omega) | (simp [AllP, condB]; intros; and_intros <;> first | assumption | omega)
    refine G.ret (endK.ret rfl ?_)
    first | (rw [gauge_Report, if_neg (fne h1), if_neg (fne h2), if_pos h3]; done) | (rw [gauge_Report, if_neg (fne h1), if_neg (fne h2), if_pos h3]; rfl)
  refine G.skip ?_
  refine G.seqDraw hmix [0, 0, 0, 0, 8, 28, 63, 127, 255] [(7, 6)] rfl rfl rfl ?_
  refine GD.more tfine 0 rfl rfl ?_ ?_
  · first | trivial | (simp [AllP, condB]; done) | (simp only [AllP]; and_intros <;> first | trivial | decide | omega) | (simp [AllP, condB]; intros; and_intros <;> first | assumption | omega)
  refine GD.call (v := .agg #[I ((gauge_times ((btw3 ((wet3 l0_0 x0_1 x1_1).1) ((wet3 l0_0 x0_1 x1_1).2.1) x1_2 x1_2 x2).1) ((btw3 ((wet3 l0_0 x0_1 x1_1).1) ((wet3 l0_0 x0_1 x1_1).2.1) x1_2 x1_2 x2).2.1) x1_3).1), I ((gauge_times ((btw3 ((wet3 l0_0 x0_1 x1_1).1) ((wet3 l0_0 x0_1 x1_1).2.1) x1_2 x1_2 x2).1) ((btw3 ((wet3 l0_0 x0_1 x1_1).1) ((wet3 l0_0 x0_1 x1_1).2.1) x1_2 x1_2 x2).2.1) x1_3).2)]) 5 rfl rfl rfl rfl rfl (fun args w => Try.call37 args w) (fun m hle ρ w hs hok => gauge_times_any _ _ _ w) ?_
  refine GD.fin tfine 6 rfl rfl ?_ ?_
  · first | trivial | (simp [AllP, condB]; done) | (simp only [AllP]; and_intros <;> first | trivial | decide | omega) | (simp [AllP, condB]; intros; and_intros <;> first | assumption | omega)
  refine G.ret (endK.ret rfl ?_)
  first | (rw [gauge_Report, if_neg (fne h1), if_neg (fne h2), if_neg (fne h3)]; done) | (rw [gauge_Report, if_neg (fne h1), if_neg (fne h2), if_neg (fne h3)]; rfl)
def spileref15_Report (l0_0 : List (Int × Int)) (x0_1 : Int) (x1_0 : Int) (x1_1 : Int) (x1_2 : Int) (x1_3 : Int) (x2 : Int) : Int × Int × Int × Int × Int × Int × Int × Int × Int := if ((tabE l0_0 x0_1) != (0 : Int)) = true then ((0 : Int), (0 : Int), (0 : Int), (0 : Int), (0 : Int), (0 : Int), (0 : Int), (0 : Int), (1 : Int)) else if (((!(spileref15_IsReading x1_0 x1_1 x1_2 x1_3)) || (((spileref05_Factor x2 x1_2).2) != (0 : Int))) || (((wet3 l0_0 x0_1 x1_1).2.2) != (0 : Int))) = true then ((0 : Int), (0 : Int), (0 : Int), (0 : Int), (0 : Int), (0 : Int), (0 : Int), (0 : Int), (2 : Int)) else (x1_0, x1_1, x1_2, x1_3, (btw3 ((wet3 l0_0 x0_1 x1_1).1) ((wet3 l0_0 x0_1 x1_1).2.1) x1_2 x1_2 x2).1, (btw3 ((wet3 l0_0 x0_1 x1_1).1) ((wet3 l0_0 x0_1 x1_1).2.1) x1_2 x1_2 x2).2.1, (spileref15_times ((btw3 ((wet3 l0_0 x0_1 x1_1).1) ((wet3 l0_0 x0_1 x1_1).2.1) x1_2 x1_2 x2).1) ((btw3 ((wet3 l0_0 x0_1 x1_1).1) ((wet3 l0_0 x0_1 x1_1).2.1) x1_2 x1_2 x2).2.1) x1_3).1, (spileref15_times ((btw3 ((wet3 l0_0 x0_1 x1_1).1) ((wet3 l0_0 x0_1 x1_1).2.1) x1_2 x1_2 x2).1) ((btw3 ((wet3 l0_0 x0_1 x1_1).1) ((wet3 l0_0 x0_1 x1_1).2.1) x1_2 x1_2 x2).2.1) x1_3).2, (0 : Int))
theorem spileref15_Report_any (A0_0 : Option Addr) (c0_0 : Nat) (l0_0 : List (Int × Int)) (x0_1 : Int) (x1_0 : Int) (x1_1 : Int) (x1_2 : Int) (x1_3 : Int) (x2 : Int) (w : World) (hl_l0_0 : RdRow w A0_0 l0_0.length 2 (elM l0_0)) (hm_l0_0 : l0_0.length ≤ 4611686018427387904) : Calls Try.prog 15 #[.agg #[.slice A0_0 l0_0.length c0_0, I x0_1], .agg #[I x1_0, I x1_1, I x1_2, I x1_3], I x2] w fun e w' => e = .returned (.tuple #[.agg #[I ((spileref15_Report l0_0 x0_1 x1_0 x1_1 x1_2 x1_3 x2).1), I ((spileref15_Report l0_0 x0_1 x1_0 x1_1 x1_2 x1_3 x2).2.1), I ((spileref15_Report l0_0 x0_1 x1_0 x1_1 x1_2 x1_3 x2).2.2.1), I ((spileref15_Report l0_0 x0_1 x1_0 x1_1 x1_2 x1_3 x2).2.2.2.1), I ((spileref15_Report l0_0 x0_1 x1_0 x1_1 x1_2 x1_3 x2).2.2.2.2.1), I ((spileref15_Report l0_0 x0_1 x1_0 x1_1 x1_2 x1_3 x2).2.2.2.2.2.1), I ((spileref15_Report l0_0 x0_1 x1_0 x1_1 x1_2 x1_3 x2).2.2.2.2.2.2.1), I ((spileref15_Report l0_0 x0_1 x1_0 x1_1 x1_2 x1_3 x2).2.2.2.2.2.2.2.1)], I ((spileref15_Report l0_0 x0_1 x1_0 x1_1 x1_2 x1_3 x2).2.2.2.2.2.2.2.2)]) ∧ Below w.heap.size w w' := by
  refine enterPlain tfine Try.func15 rfl 62 Try.ntmps15 [.agg [.inp 1000 A0_0 l0_0.length c0_0, .k (I x0_1)], .agg [.k (I x1_0), .k (I x1_1), .k (I x1_2), .k (I x1_3)], .c (.k (I x2))] [⟨1000, A0_0, 2, l0_0.length, elM l0_0⟩] rfl rfl ⟨hl_l0_0, trivial⟩ ⟨⟨.inl ⟨rfl, rfl, rfl⟩, trivial, trivial⟩, ⟨trivial, trivial, trivial, trivial, trivial⟩, trivial, trivial⟩ ?_
  refine G.seqR tfine rfl ?_ ?_
  · first | trivial | (simp [AllP, condB]; done) | (simp only [AllP]; and_intros <;> first | trivial | decide | omega) | (simp [AllP, condB]; intros; and_intros <;> first | assumption | omega)
  refine G.seq ?_
  refine G.seqC tfine rfl ?_ ?_
  · first | trivial | (simp [AllP, condB]; done) | (simp only [AllP]; and_intros <;> first | trivial | decide | omega) | (simp [AllP, condB]; intros; and_intros <;> first | assumption | omega)
  refine GO.callPlain (v := I (tabE l0_0 x0_1))  rfl rfl rfl rfl (fun args w => Try.call33 args w) (fun ρ w hs hok => ref13Check_any A0_0 c0_0 l0_0 _ w (hs.row (cap := c0_0) rfl (hok _ List.mem_cons_self _ List.mem_cons_self)) hm_l0_0) ?_
  refine GO.fin tfine rfl ?_ ?_
  · first | trivial | (simp [AllP, condB]; done) | (simp only [AllP]; and_intros <;> first | trivial | decide | omega) | (simp [AllP, condB]; intros; and_intros <;> first | assumption | omega)
  refine G.cond (b := (tabE l0_0 x0_1) != (0 : Int)) rfl (fun h1 => ?_) (fun h1 => ?_)
  · refine G.seqR tfine rfl ?_ ?_
    · first | trivial | (simp [AllP, condB]; done) | (simp only [AllP]; and_intros <;> first | trivial | decide | omega) | (simp [AllP, condB]; intros; and_intros <;> first | assumption | omega)
    refine G.ret (endK.ret rfl ?_)
    first | (rw [spileref15_Report, if_pos h1]; done) | (rw [spileref15_Report, if_pos h1]; rfl)
  refine G.skip ?_
  refine G.seqC tfine rfl ?_ ?_
  · first | trivial | (simp [AllP, condB]; done) | (simp only [AllP]; and_intros <;> first | trivial | decide | omega) | (simp [AllP, condB]; intros; and_intros <;> first | assumption | omega)
  refine GO.callPlain (v := .tuple #[.agg #[I ((wet3 l0_0 x0_1 x1_1).1), I ((wet3 l0_0 x0_1 x1_1).2.1)], I ((wet3 l0_0 x0_1 x1_1).2.2)])  rfl rfl rfl rfl (fun args w => Try.call13 args w) (fun ρ w hs hok => refWet_any A0_0 c0_0 l0_0 _ _ w (hs.row (cap := c0_0) rfl (hok _ List.mem_cons_self _ List.mem_cons_self)) hm_l0_0) ?_
  refine GO.fin tfine rfl ?_ ?_
  · first | trivial | (simp [AllP, condB]; done) | (simp only [AllP]; and_intros <;> first | trivial | decide | omega) | (simp [AllP, condB]; intros; and_intros <;> first | assumption | omega)
  refine G.seq ?_
  refine G.seqC tfine rfl ?_ ?_
  · first | trivial | (simp [AllP, condB]; done) | (simp only [AllP]; and_intros <;> first | trivial | decide | omega) | (simp [AllP, condB]; intros; and_intros <;> first | assumption | omega)
  refine GO.callPlain (v := .tuple #[I ((spileref05_Factor x2 x1_2).1), I ((spileref05_Factor x2 x1_2).2)])  rfl rfl rfl rfl (fun args w => Try.call38 args w) (fun ρ w hs hok => spileref05_Factor_any _ _ w) ?_
  refine GO.fin tfine rfl ?_ ?_
  · first | trivial | (simp [AllP, condB]; done) | (simp only [AllP]; and_intros <;> first | trivial | decide | omega) | (simp [AllP, condB]; intros; and_intros <;> first | assumption | omega)
  refine G.seqC tfine rfl ?_ ?_
  · first | trivial | (simp [AllP, condB]; done) | (simp only [AllP]; and_intros <;> first | trivial | decide | omega) | (simp [AllP, condB]; intros; and_intros <;> first | assumption | omega)
  refine GO.callPlain (v := .bool (spileref15_IsReading x1_0 x1_1 x1_2 x1_3))  rfl rfl rfl rfl (fun args w => Try.call39 args w) (fun ρ w hs hok => spileref15_IsReading_any _ _ _ _ w) ?_
  refine GO.fin tfine rfl ?_ ?_
  · first | trivial | (simp [AllP, condB]; done) | (simp only [AllP]; and_intros <;> first | trivial | decide | omega) | (simp [AllP, condB]; intros; and_intros <;> first | assumption | omega)
  refine G.cond (b := ((!(spileref15_IsReading x1_0 x1_1 x1_2 x1_3)) || (((spileref05_Factor x2 x1_2).2) != (0 : Int))) || (((wet3 l0_0 x0_1 x1_1).2.2) != (0 : Int))) rfl (fun h2 => ?_) (fun h2 => ?_)
  · refine G.seqR tfine rfl ?_ ?_
    · first | trivial | (simp [AllP, condB]; done) | (simp only [AllP]; and_intros <;> first | trivial | decide | omega) | (simp [AllP, condB]; intros; and_intros <;> first | assumption | omega)
    refine G.ret (endK.ret rfl ?_)
    first | (rw [spileref15_Report, if_neg (fne h1), if_pos h2]; done) | (rw [spileref15_Report, if_neg (fne h1), if_pos h2]; rfl)
  refine G.skip ?_
  refine G.seqC tfine rfl ?_ ?_
  · first | trivial | (simp [AllP, condB]; done) | (simp only [AllP]; and_intros <;> first | trivial | decide | omega) | (simp [AllP, condB]; intros; and_intros <;> first | assumption | omega)
  refine GO.callPlain (v := .tuple #[.agg #[I ((btw3 ((wet3 l0_0 x0_1 x1_1).1) ((wet3 l0_0 x0_1 x1_1).2.1) x1_2 x1_2 x2).1), I ((btw3 ((wet3 l0_0 x0_1 x1_1).1) ((wet3 l0_0 x0_1 x1_1).2.1) x1_2 x1_2 x2).2.1)], I ((btw3 ((wet3 l0_0 x0_1 x1_1).1) ((wet3 l0_0 x0_1 x1_1).2.1) x1_2 x1_2 x2).2.2)])  rfl rfl rfl rfl (fun args w => Try.call40 args w) (fun ρ w hs hok => refBetween_any _ _ _ _ _ w) ?_
  refine GO.fin tfine rfl ?_ ?_
  · first | trivial | (simp [AllP, condB]; done) | (simp only [AllP]; and_intros <;> first | trivial | decide | omega) | (simp [AllP, condB]; intros; and_intros <;> first | assumption | omega)
  refine G.seqDraw hmix [0, 0, 0, 0, 8, 28, 63, 127, 255] [(7, 6)] rfl rfl rfl ?_
  refine GD.more tfine 0 rfl rfl ?_ ?_
  · first | trivial | (simp [AllP, condB]; done) | (simp only [AllP]; and_intros <;> first | trivial | decide | omega) | (simp [AllP, condB]; intros; and_intros <;> first | assumption | omega)
  refine GD.call (v := .agg #[I ((spileref15_times ((btw3 ((wet3 l0_0 x0_1 x1_1).1) ((wet3 l0_0 x0_1 x1_1).2.1) x1_2 x1_2 x2).1) ((btw3 ((wet3 l0_0 x0_1 x1_1).1) ((wet3 l0_0 x0_1 x1_1).2.1) x1_2 x1_2 x2).2.1) x1_3).1), I ((spileref15_times ((btw3 ((wet3 l0_0 x0_1 x1_1).1) ((wet3 l0_0 x0_1 x1_1).2.1) x1_2 x1_2 x2).1) ((btw3 ((wet3 l0_0 x0_1 x1_1).1) ((wet3 l0_0 x0_1 x1_1).2.1) x1_2 x1_2 x2).2.1) x1_3).2)]) 5 rfl rfl rfl rfl rfl (fun args w => Try.call41 args w) (fun m hle ρ w hs hok => spileref15_times_any _ _ _ w) ?_
  refine GD.fin tfine 6 rfl rfl ?_ ?_
  · first | trivial | (simp [AllP, condB]; done) | (simp only [AllP]; and_intros <;> first | trivial | decide | omega) | (simp [AllP, condB]; intros; and_intros <;> first | assumption | omega)
  refine G.ret (endK.ret rfl ?_)
  first | (rw [spileref15_Report, if_neg (fne h1), if_neg (fne h2)]; done) | (rw [spileref15_Report, if_neg (fne h1), if_neg (fne h2)]; rfl)
def spileref13_Few (l0_0 : List (Int × Int)) (x0_1 : Int) : Bool := (decide ((l0_0.length : Int) ≤ (129 : Int)))
theorem spileref13_Few_any (A0_0 : Option Addr) (c0_0 : Nat) (l0_0 : List (Int × Int)) (x0_1 : Int) (w : World) (hl_l0_0 : RdRow w A0_0 l0_0.length 2 (elM l0_0)) (hm_l0_0 : l0_0.length ≤ 4611686018427387904) : Calls Try.prog 10 #[.agg #[.slice A0_0 l0_0.length c0_0, I x0_1]] w fun e w' => e = .returned (.bool (spileref13_Few l0_0 x0_1)) ∧ Below w.heap.size w w' := by
  refine enterPlain tfine Try.func10 rfl 7 Try.ntmps10 [.agg [.inp 1000 A0_0 l0_0.length c0_0, .k (I x0_1)]] [⟨1000, A0_0, 2, l0_0.length, elM l0_0⟩] rfl rfl ⟨hl_l0_0, trivial⟩ ⟨⟨.inl ⟨rfl, rfl, rfl⟩, trivial, trivial⟩, trivial⟩ ?_
  refine G.seqR tfine rfl ?_ ?_
  · first | trivial | (simp [AllP, condB]; done) | (simp only [AllP]; and_intros <;> first | trivial | decide | omega) | (simp [AllP, condB]; intros; and_intros <;> first | assumption | omega)
  refine G.seqR tfine rfl ?_ ?_
  · first | trivial | (simp [AllP, condB]; done) | (simp only [AllP]; and_intros <;> first | trivial | decide | omega) | (simp [AllP, condB]; intros; and_intros <;> first | assumption | omega)
  refine G.ret (endK.ret rfl ?_)
  first | (rw [spileref13_Few]; done) | (rw [spileref13_Few]; rfl)
def gauge_Together_2 (x0_0 : Int) (x0_1 : Int) (x1_0 : Int) (x1_1 : Int) : Int × Int := (if x1_0 > x0_0 then x1_0 else x0_0, if x1_1 < x0_1 then x1_1 else x0_1)
theorem gauge_Together_2_any (x0_0 : Int) (x0_1 : Int) (x1_0 : Int) (x1_1 : Int) (w : World) : Calls Try.prog 44 #[.agg #[I x0_0, I x0_1], .agg #[I x1_0, I x1_1]] w fun e w' => e = .returned (.agg #[I ((gauge_Together_2 x0_0 x0_1 x1_0 x1_1).1), I ((gauge_Together_2 x0_0 x0_1 x1_0 x1_1).2)]) ∧ Below w.heap.size w w' := by
  refine enterPlain tfine Try.func44 rfl 16 Try.ntmps44 [.agg [.k (I x0_0), .k (I x0_1)], .agg [.k (I x1_0), .k (I x1_1)]] [] rfl rfl trivial ⟨⟨trivial, trivial, trivial⟩, ⟨trivial, trivial, trivial⟩, trivial⟩ ?_
  refine G.seqR tfine rfl ?_ ?_
  · first | trivial | (simp [AllP, condB]; done) | (simp only [AllP]; and_intros <;> first | trivial | decide | omega) | (simp [AllP, condB]; intros; and_intros <;> first | assumption | omega)
  refine G.seqR tfine rfl ?_ ?_
  · first | trivial | (simp [AllP, condB]; done) | (simp only [AllP]; and_intros <;> first | trivial | decide | omega) | (simp [AllP, condB]; intros; and_intros <;> first | assumption | omega)
  refine G.ret (endK.ret rfl ?_)
  first | (rw [gauge_Together_2]; done) | (rw [gauge_Together_2]; rfl)
def gauge_Total_1 (x0_0 : Int) (x0_1 : Int) (x1_0 : Int) (x1_1 : Int) : Int × Int := (IntKind.i64.wrap (x0_0 + x1_0), IntKind.i64.wrap (x0_1 + x1_1))
theorem gauge_Total_1_any (x0_0 : Int) (x0_1 : Int) (x1_0 : Int) (x1_1 : Int) (w : World) : Calls Try.prog 48 #[.agg #[I x0_0, I x0_1], .agg #[I x1_0, I x1_1]] w fun e w' => e = .returned (.agg #[I ((gauge_Total_1 x0_0 x0_1 x1_0 x1_1).1), I ((gauge_Total_1 x0_0 x0_1 x1_0 x1_1).2)]) ∧ Below w.heap.size w w' := by
  refine enterPlain tfine Try.func48 rfl 16 Try.ntmps48 [.agg [.k (I x0_0), .k (I x0_1)], .agg [.k (I x1_0), .k (I x1_1)]] [] rfl rfl trivial ⟨⟨trivial, trivial, trivial⟩, ⟨trivial, trivial, trivial⟩, trivial⟩ ?_
  refine G.seqR tfine rfl ?_ ?_
  · first | trivial | (simp [AllP, condB]; done) | (simp only [AllP]; and_intros <;> first | trivial | decide | omega) | (simp [AllP, condB]; intros; and_intros <;> first | assumption | omega)
  refine G.seqR tfine rfl ?_ ?_
  · first | trivial | (simp [AllP, condB]; done) | (simp only [AllP]; and_intros <;> first | trivial | decide | omega) | (simp [AllP, condB]; intros; and_intros <;> first | assumption | omega)
  refine G.ret (endK.ret rfl ?_)
  first | (rw [gauge_Total_1]; done) | (rw [gauge_Total_1]; rfl)
end Go.Proofs.Ytiicemgngccicaa
/- Chapter 15: rows of reports. -/
set_option linter.unusedVariables false
set_option linter.unusedSimpArgs false
set_option maxRecDepth 8000
set_option maxHeartbeats 1000000
namespace Go.Proofs.Ytiicemgngccicaa
open Go.Sx Go.RowKit
structure Rep where
  d : Int
  p : Int
  h : Int
  s : Int
  vl : Int
  vh : Int
  al : Int
  ah : Int
def rep0 : Rep := ⟨0, 0, 0, 0, 0, 0, 0, 0⟩
def Rep.cs (r : Rep) : List Value := [I r.d, I r.p, I r.h, I r.s, I r.vl, I r.vh, I r.al, I r.ah]
def Rep.v (r : Rep) : Value := .agg #[I r.d, I r.p, I r.h, I r.s, I r.vl, I r.vh, I r.al, I r.ah]
def elR (l : List Rep) (i : Nat) : List Value := [I (l.getD i rep0).d, I (l.getD i rep0).p, I (l.getD i rep0).h, I (l.getD i rep0).s, I (l.getD i rep0).vl, I (l.getD i rep0).vh, I (l.getD i rep0).al, I (l.getD i rep0).ah]
theorem Below.join {w w1 w2 : World} (h : Below w.heap.size w w1) (h2 : Below w1.heap.size w1 w2) : Below w.heap.size w w2 := (Fr.below (Fr.of_below h) h2).toBelow
theorem indexFuncR_any (f : FuncId) (q : Rep → Bool) (p : Value) (hcf : ∀ args w, (callFunc f args).run Try.prog w = .ok (.enter f args) w)
    (A : Option Addr) (c : Nat) (l : List Rep) (w : World) (hf : ∀ w1, Below w.heap.size w w1 → ∀ v ∈ l, Calls Try.prog f #[Rep.v v, p] w1 fun e w' => e = .returned (.bool (q v)) ∧ Below w1.heap.size w1 w') (hl : RdRow w A l.length 8 (elR l)) (hm : l.length ≤ 4611686018427387904) :
    Calls Try.prog 51 #[.slice A l.length c, .func (.func f) #[] #[p]] w fun e w' => e = .returned (I (firstI (fun k => q (l.getD k rep0)) 0 l.length)) ∧ Below w.heap.size w w' := by
  refine enterPlain tfine Try.func51 rfl 19 Try.ntmps51 [.c (.inp 1000 A l.length c), .c (.k (.func (.func f) #[] #[p]))] [⟨1000, A, 8, l.length, elR l⟩] rfl rfl ⟨hl, trivial⟩ ⟨.inl ⟨rfl, rfl, rfl⟩, trivial, trivial⟩ ?_
  refine G.seqR tfine rfl trivial ?_
  refine G.seq (G.seqR tfine rfl trivial ?_)
  refine G.block (G.loop (fun k : Nat => St.of [(0, .v (.c (.inp 1000 A l.length c))), (1, .v (.c (.k (.func (.func f) #[] #[p])))), (7, .v (.c (.k (I l.length)))), (8, .v (.c (.k (I k))))] [(1000, .ro 8 l.length (elR l))])
    (fun k => k ≤ l.length ∧ firstI (fun k => q (l.getD k rep0)) 0 l.length = firstI (fun k => q (l.getD k rep0)) k (l.length - k)) (fun k => l.length - k) 0 ⟨by omega, by simp⟩ (St.le_of rfl ⟨⟨_, rfl, Blk.le_refl _⟩, trivial⟩ ⟨rfl, rfl, rfl, rfl, trivial⟩) ?_)
  rintro k ⟨hk, hfi⟩
  refine G.seqR tfine rfl trivial ?_
  refine G.seq (G.cond rfl (fun h => ?_) (fun h => ?_))
  rotate_left
  · have h := of_decide_eq_false h
    have : k = l.length := by omega
    subst this
    refine G.exit ?_
    refine G.seqR tfine rfl trivial ?_
    refine G.ret (endK.ret rfl ?_)
    rw [hfi]
    simp [firstI]
  have h := of_decide_eq_true h
  have hlt : k < l.length := by omega
  refine G.skip ?_
  refine G.seq (G.block ?_)
  refine G.seqR tfine rfl trivial ?_
  refine G.seqC tfine rfl ⟨by simpa using hlt, by omega, by omega, trivial⟩ ?_
  rw [Int.toNat_natCast]
  refine GO.callPlain rfl rfl rfl rfl hcf (fun ρ w1 hm _ => hf w1 hm.fr.toBelow (l.getD k rep0) (getD_mem hlt)) (GO.nil ?_)
  have hs : l.length - k = (l.length - (k + 1)) + 1 := by omega
  rw [hs, firstI] at hfi
  refine G.cond rfl (fun h2 => ?_) (fun h2 => ?_)
  · refine G.seqR tfine rfl trivial ?_
    refine G.ret (endK.ret rfl ?_)
    rw [hfi, if_pos h2]
  · refine G.skip ?_
    refine G.reg tfine rfl trivial ?_
    rw [IntWalk.i64_in _ (by omega)]
    rw [if_neg (by simpa using h2)] at hfi
    exact ⟨k + 1, ⟨by omega, hfi⟩, (by show l.length - (k + 1) < l.length - k; omega), St.le_of rfl ⟨⟨_, rfl, Blk.le_refl _⟩, trivial⟩ ⟨rfl, rfl, rfl, by simp [up, I], trivial⟩⟩
theorem containsFuncR_any (f : FuncId) (q : Rep → Bool) (p : Value) (hcf : ∀ args w, (callFunc f args).run Try.prog w = .ok (.enter f args) w)
    (A : Option Addr) (c : Nat) (l : List Rep) (w : World) (hf : ∀ w1, Below w.heap.size w w1 → ∀ v ∈ l, Calls Try.prog f #[Rep.v v, p] w1 fun e w' => e = .returned (.bool (q v)) ∧ Below w1.heap.size w1 w') (hl : RdRow w A l.length 8 (elR l)) (hm : l.length ≤ 4611686018427387904) :
    Calls Try.prog 25 #[.slice A l.length c, .func (.func f) #[] #[p]] w fun e w' => e = .returned (.bool (decide (firstI (fun k => q (l.getD k rep0)) 0 l.length ≥ 0))) ∧ Below w.heap.size w w' := by
  refine enterPlain tfine Try.func25 rfl 9 Try.ntmps25 [.c (.inp 1000 A l.length c), .c (.k (.func (.func f) #[] #[p]))] [⟨1000, A, 8, l.length, elR l⟩] rfl rfl ⟨hl, trivial⟩ ⟨.inl ⟨rfl, rfl, rfl⟩, trivial, trivial⟩ ?_
  refine G.seqR tfine rfl trivial ?_
  refine G.seqC tfine rfl trivial ?_
  refine GO.callPlain rfl rfl rfl rfl (fun args w => Try.call51 args w) (fun ρ w1 hs hok => indexFuncR_any f q p hcf A c l w1 (fun w2 h2 v hv => hf w2 (Below.join hs.fr.toBelow h2) v hv) (hs.row rfl (hok _ List.mem_cons_self)) hm) ?_
  refine GO.fin tfine rfl trivial ?_
  exact G.ret (endK.ret rfl rfl)
def okR (r : Rep) : Bool := gauge_Right r.d r.p r.h r.s r.vl r.vh r.al r.ah
theorem right_any (r : Rep) (w : World) : Calls Try.prog 18 #[Rep.v r] w fun e w' => e = .returned (.bool (okR r)) ∧ Below w.heap.size w w' := gauge_Right_any r.d r.p r.h r.s r.vl r.vh r.al r.ah w
theorem rights1_any (b : Bool) (r : Rep) (w : World) : Calls Try.prog 66 #[.bool b, Rep.v r] w fun e w' => e = .returned (.bool (b && okR r)) ∧ Below w.heap.size w w' := by
  refine enterPlain tfine Try.func66 rfl 10 Try.ntmps66 [.c (.k (.bool b)), .agg [.k (I r.d), .k (I r.p), .k (I r.h), .k (I r.s), .k (I r.vl), .k (I r.vh), .k (I r.al), .k (I r.ah)]] [] rfl rfl trivial ⟨trivial, ⟨trivial, trivial, trivial, trivial, trivial, trivial, trivial, trivial, trivial⟩, trivial⟩ ?_
  refine G.seqR tfine rfl trivial ?_
  refine G.seqC tfine rfl trivial ?_
  refine GO.callGuard (.bool (okR r)) rfl rfl rfl (by first | exact trivial | exact ⟨id, trivial⟩) rfl rfl (fun args w => Try.call18 args w) rfl (fun _ m' hle ρ w hs hok => right_any r w) ?_
  refine GO.fin tfine rfl ?_ ?_
  · simp [AllP, condB]
  exact G.ret (endK.ret rfl rfl)
theorem take_all {α : Type} (q : α → Bool) (l : List α) (k : Nat) (d : α) (h : k < l.length) : (l.take (k + 1)).all q = ((l.take k).all q && q (l.getD k d)) := by
  rw [List.take_succ_eq_append_getElem h, List.all_append, List.getD_eq_getElem?_getD, List.getElem?_eq_getElem h]
  simp
theorem foldB_any (A : Option Addr) (c : Nat) (l : List Rep) (w : World) (hl : RdRow w A l.length 8 (elR l)) (hm : l.length ≤ 4611686018427387904) :
    Calls Try.prog 65 #[.slice A l.length c, .bool true, .func (.func 66) #[] #[]] w fun e w' => e = .returned (.bool (l.all okR)) ∧ Below w.heap.size w w' := by
  refine enterPlain tfine Try.func65 rfl 21 Try.ntmps65 [.c (.inp 1000 A l.length c), .c (.k (.bool true)), .c (.k (.func (.func 66) #[] #[]))] [⟨1000, A, 8, l.length, elR l⟩] rfl rfl ⟨hl, trivial⟩ ⟨.inl ⟨rfl, rfl, rfl⟩, trivial, trivial, trivial⟩ ?_
  refine G.seqR tfine rfl trivial ?_
  refine G.seq (G.seqR tfine rfl trivial ?_)
  refine G.block (G.loop (fun k : Nat => St.of [(1, .v (.c (.k (.bool ((l.take k).all okR))))), (2, .v (.c (.k (.func (.func 66) #[] #[])))), (9, .v (.c (.inp 1000 A l.length c))), (10, .v (.c (.k (I l.length)))), (11, .v (.c (.k (I k))))] [(1000, .ro 8 l.length (elR l))])
    (fun k => k ≤ l.length) (fun k => l.length - k) 0 (by omega) (St.le_of rfl ⟨⟨_, rfl, Blk.le_refl _⟩, trivial⟩ ⟨rfl, rfl, rfl, rfl, rfl, trivial⟩) ?_)
  intro k hk
  refine G.seqR tfine rfl trivial ?_
  refine G.seq (G.cond rfl (fun h => ?_) (fun h => ?_))
  rotate_left
  · have h := of_decide_eq_false h
    have : k = l.length := by omega
    subst this
    refine G.exit ?_
    refine G.seqR tfine rfl trivial ?_
    refine G.ret (endK.ret rfl ?_)
    rw [List.take_length]
  have h := of_decide_eq_true h
  have hlt : k < l.length := by omega
  refine G.skip ?_
  refine G.seq (G.block ?_)
  refine G.seqR tfine rfl ?_ ?_
  · simp [AllP]; omega
  rw [Int.toNat_natCast]
  refine G.regC tfine rfl trivial ?_
  refine GO.callPlain (v := .bool ((l.take k).all okR && okR (l.getD k rep0))) rfl rfl rfl rfl (fun args w => Try.call66 args w) (fun ρ w hm _ => rights1_any _ (l.getD k rep0) w) ?_
  refine GO.fin tfine rfl trivial ?_
  refine G.reg tfine rfl trivial ?_
  rw [IntWalk.i64_in ((k : Int) + 1) (by omega), ← take_all okR l k rep0 hlt]
  exact ⟨k + 1, hlt, (by show l.length - (k + 1) < l.length - k; omega), St.le_of rfl ⟨⟨_, rfl, Blk.le_refl _⟩, trivial⟩ ⟨rfl, rfl, rfl, rfl, rfl, trivial⟩⟩
theorem rights_any (A : Option Addr) (c : Nat) (l : List Rep) (w : World) (hl : RdRow w A l.length 8 (elR l)) (hm : l.length ≤ 4611686018427387904) :
    Calls Try.prog 42 #[.slice A l.length c] w fun e w' => e = .returned (.bool (l.all okR)) ∧ Below w.heap.size w w' := by
  refine enterPlain tfine Try.func42 rfl 5 Try.ntmps42 [.c (.inp 1000 A l.length c)] [⟨1000, A, 8, l.length, elR l⟩] rfl rfl ⟨hl, trivial⟩ ⟨.inl ⟨rfl, rfl, rfl⟩, trivial⟩ ?_
  refine G.seqR tfine rfl trivial ?_
  refine G.seqC tfine rfl trivial ?_
  refine GO.callPlain (v := .bool (l.all okR)) rfl rfl rfl rfl (fun args w => Try.call65 args w) (fun ρ w hs hok => foldB_any A c l w (hs.row (cap := c) rfl (hok _ List.mem_cons_self)) hm) ?_
  refine GO.fin tfine rfl trivial ?_
  exact G.ret (endK.ret rfl rfl)
theorem foldP_any (f : FuncId) (p : Value) (stp : Int × Int → Rep → Int × Int) (hcf : ∀ args w, (callFunc f args).run Try.prog w = .ok (.enter f args) w) (A : Option Addr) (c : Nat) (l : List Rep) (b : Int × Int) (w : World)
    (hf : ∀ w1, Below w.heap.size w w1 → ∀ (b : Int × Int) (r : Rep), Calls Try.prog f #[.agg #[I b.1, I b.2], Rep.v r, p] w1 fun e w' => e = .returned (.agg #[I (stp b r).1, I (stp b r).2]) ∧ Below w1.heap.size w1 w') (hl : RdRow w A l.length 8 (elR l)) (hm : l.length ≤ 4611686018427387904) :
    Calls Try.prog 45 #[.slice A l.length c, .agg #[I b.1, I b.2], .func (.func f) #[] #[p]] w fun e w' => e = .returned (.agg #[I (l.foldl stp b).1, I (l.foldl stp b).2]) ∧ Below w.heap.size w w' := by
  refine enterPlain tfine Try.func45 rfl 21 Try.ntmps45 [.c (.inp 1000 A l.length c), .agg [.k (I b.1), .k (I b.2)], .c (.k (.func (.func f) #[] #[p]))] [⟨1000, A, 8, l.length, elR l⟩] rfl rfl ⟨hl, trivial⟩ ⟨.inl ⟨rfl, rfl, rfl⟩, ⟨trivial, trivial, trivial⟩, trivial, trivial⟩ ?_
  refine G.seqR tfine rfl trivial ?_
  refine G.seq (G.seqR tfine rfl trivial ?_)
  refine G.block (G.loop (fun k : Nat => St.of [(2, .v (.c (.k (.func (.func f) #[] #[p])))), (4, .v (.c (.ptr 4 0 0 0))), (6, .v (.c (.ptr 6 0 0 0))), (9, .v (.c (.inp 1000 A l.length c))), (10, .v (.c (.k (I l.length)))), (11, .v (.c (.k (I k))))]
      [(4, .var 30 [.k (I ((l.take k).foldl stp b).1), .k (I ((l.take k).foldl stp b).2)]), (6, .var 30 [.k (I 0), .k (I 0)]), (1000, .ro 8 l.length (elR l))])
    (fun k => k ≤ l.length) (fun k => l.length - k) 0 (by omega) (St.le_of rfl ⟨⟨_, rfl, Blk.le_refl _⟩, ⟨_, rfl, Blk.le_refl _⟩, ⟨_, rfl, Blk.le_refl _⟩, trivial⟩ ⟨rfl, rfl, rfl, rfl, rfl, rfl, trivial⟩) ?_)
  intro k hk
  refine G.seqR tfine rfl trivial ?_
  refine G.seq (G.cond rfl (fun h => ?_) (fun h => ?_))
  rotate_left
  · have h := of_decide_eq_false h
    have : k = l.length := by omega
    subst this
    refine G.exit ?_
    refine G.seqR tfine rfl trivial ?_
    refine G.ret (endK.ret rfl ?_)
    rw [List.take_length]
  have h := of_decide_eq_true h
  have hlt : k < l.length := by omega
  refine G.skip ?_
  refine G.seq (G.block ?_)
  refine G.seqR tfine rfl ?_ ?_
  · simp [AllP]; omega
  rw [Int.toNat_natCast]
  refine G.regC tfine rfl trivial ?_
  have hstep : (l.take (k + 1)).foldl stp b = stp ((l.take k).foldl stp b) (l.getD k rep0) := by
    rw [List.take_succ_eq_append_getElem hlt, List.foldl_append, List.getD_eq_getElem?_getD, List.getElem?_eq_getElem hlt]
    rfl
  refine GO.callPlain (v := .agg #[I (stp ((l.take k).foldl stp b) (l.getD k rep0)).1, I (stp ((l.take k).foldl stp b) (l.getD k rep0)).2]) rfl rfl rfl rfl hcf (fun ρ w1 hm _ => hf w1 hm.fr.toBelow ((l.take k).foldl stp b) (l.getD k rep0)) ?_
  refine GO.fin tfine rfl trivial ?_
  refine G.reg tfine rfl trivial ?_
  rw [IntWalk.i64_in ((k : Int) + 1) (by omega), ← hstep]
  exact ⟨k + 1, hlt, (by show l.length - (k + 1) < l.length - k; omega), St.le_of rfl ⟨⟨_, rfl, Blk.le_refl _⟩, ⟨_, rfl, Blk.le_refl _⟩, ⟨_, rfl, Blk.le_refl _⟩, trivial⟩ ⟨rfl, rfl, rfl, rfl, rfl, rfl, trivial⟩⟩
def meet (a b : Int × Int) : Int × Int := gauge_Together_2 a.1 a.2 b.1 b.2
def addW (a b : Int × Int) : Int × Int := gauge_Total_1 a.1 a.2 b.1 b.2
def vol (r : Rep) : Int × Int := (r.vl, r.vh)
def alc (r : Rep) : Int × Int := (r.al, r.ah)
theorem meetV_any (g : Nat) (b : Int × Int) (r : Rep) (w : World) (hg : w.heap[g]? = some (.cells #[.func (.func 44) #[] #[]] 68 (0, 0))) :
    Calls Try.prog 46 #[.agg #[I b.1, I b.2], Rep.v r, .pointer (some ⟨g, 0, none⟩)] w fun e w' => e = .returned (.agg #[I (meet b (vol r)).1, I (meet b (vol r)).2]) ∧ Below w.heap.size w w' := by
  refine enterCap tfine (g := g) 68 [.k (.func (.func 44) #[] #[])] Try.func46 rfl 11 Try.ntmps46 [.agg [.k (I b.1), .k (I b.2)], .agg [.k (I r.d), .k (I r.p), .k (I r.h), .k (I r.s), .k (I r.vl), .k (I r.vh), .k (I r.al), .k (I r.ah)], .c (.ptr 1900 0 0 0)] [] trivial hg rfl rfl trivial ⟨trivial, trivial⟩
    ⟨⟨trivial, trivial, trivial⟩, ⟨trivial, trivial, trivial, trivial, trivial, trivial, trivial, trivial, trivial⟩, rfl, trivial⟩ ?_
  refine G.seqR tfine rfl trivial ?_
  refine G.seqC tfine rfl trivial ?_
  refine GO.callPlain (v := .agg #[I (meet b (vol r)).1, I (meet b (vol r)).2]) rfl rfl rfl rfl (fun args w => Try.call44 args w) (fun ρ w hm _ => gauge_Together_2_any b.1 b.2 (vol r).1 (vol r).2 w) ?_
  refine GO.fin tfine rfl trivial ?_
  exact G.ret (endCap.ret rfl rfl rfl)
theorem meetA_any (g : Nat) (b : Int × Int) (r : Rep) (w : World) (hg : w.heap[g]? = some (.cells #[.func (.func 44) #[] #[]] 68 (0, 0))) :
    Calls Try.prog 47 #[.agg #[I b.1, I b.2], Rep.v r, .pointer (some ⟨g, 0, none⟩)] w fun e w' => e = .returned (.agg #[I (meet b (alc r)).1, I (meet b (alc r)).2]) ∧ Below w.heap.size w w' := by
  refine enterCap tfine (g := g) 68 [.k (.func (.func 44) #[] #[])] Try.func47 rfl 11 Try.ntmps47 [.agg [.k (I b.1), .k (I b.2)], .agg [.k (I r.d), .k (I r.p), .k (I r.h), .k (I r.s), .k (I r.vl), .k (I r.vh), .k (I r.al), .k (I r.ah)], .c (.ptr 1900 0 0 0)] [] trivial hg rfl rfl trivial ⟨trivial, trivial⟩
    ⟨⟨trivial, trivial, trivial⟩, ⟨trivial, trivial, trivial, trivial, trivial, trivial, trivial, trivial, trivial⟩, rfl, trivial⟩ ?_
  refine G.seqR tfine rfl trivial ?_
  refine G.seqC tfine rfl trivial ?_
  refine GO.callPlain (v := .agg #[I (meet b (alc r)).1, I (meet b (alc r)).2]) rfl rfl rfl rfl (fun args w => Try.call44 args w) (fun ρ w hm _ => gauge_Together_2_any b.1 b.2 (alc r).1 (alc r).2 w) ?_
  refine GO.fin tfine rfl trivial ?_
  exact G.ret (endCap.ret rfl rfl rfl)
theorem addV_any (g : Nat) (b : Int × Int) (r : Rep) (w : World) (hg : w.heap[g]? = some (.cells #[.func (.func 48) #[] #[]] 68 (0, 0))) :
    Calls Try.prog 49 #[.agg #[I b.1, I b.2], Rep.v r, .pointer (some ⟨g, 0, none⟩)] w fun e w' => e = .returned (.agg #[I (addW b (vol r)).1, I (addW b (vol r)).2]) ∧ Below w.heap.size w w' := by
  refine enterCap tfine (g := g) 68 [.k (.func (.func 48) #[] #[])] Try.func49 rfl 11 Try.ntmps49 [.agg [.k (I b.1), .k (I b.2)], .agg [.k (I r.d), .k (I r.p), .k (I r.h), .k (I r.s), .k (I r.vl), .k (I r.vh), .k (I r.al), .k (I r.ah)], .c (.ptr 1900 0 0 0)] [] trivial hg rfl rfl trivial ⟨trivial, trivial⟩
    ⟨⟨trivial, trivial, trivial⟩, ⟨trivial, trivial, trivial, trivial, trivial, trivial, trivial, trivial, trivial⟩, rfl, trivial⟩ ?_
  refine G.seqR tfine rfl trivial ?_
  refine G.seqC tfine rfl trivial ?_
  refine GO.callPlain (v := .agg #[I (addW b (vol r)).1, I (addW b (vol r)).2]) rfl rfl rfl rfl (fun args w => Try.call48 args w) (fun ρ w hm _ => gauge_Total_1_any b.1 b.2 (vol r).1 (vol r).2 w) ?_
  refine GO.fin tfine rfl trivial ?_
  exact G.ret (endCap.ret rfl rfl rfl)
theorem addA_any (g : Nat) (b : Int × Int) (r : Rep) (w : World) (hg : w.heap[g]? = some (.cells #[.func (.func 48) #[] #[]] 68 (0, 0))) :
    Calls Try.prog 50 #[.agg #[I b.1, I b.2], Rep.v r, .pointer (some ⟨g, 0, none⟩)] w fun e w' => e = .returned (.agg #[I (addW b (alc r)).1, I (addW b (alc r)).2]) ∧ Below w.heap.size w w' := by
  refine enterCap tfine (g := g) 68 [.k (.func (.func 48) #[] #[])] Try.func50 rfl 11 Try.ntmps50 [.agg [.k (I b.1), .k (I b.2)], .agg [.k (I r.d), .k (I r.p), .k (I r.h), .k (I r.s), .k (I r.vl), .k (I r.vh), .k (I r.al), .k (I r.ah)], .c (.ptr 1900 0 0 0)] [] trivial hg rfl rfl trivial ⟨trivial, trivial⟩
    ⟨⟨trivial, trivial, trivial⟩, ⟨trivial, trivial, trivial, trivial, trivial, trivial, trivial, trivial, trivial⟩, rfl, trivial⟩ ?_
  refine G.seqR tfine rfl trivial ?_
  refine G.seqC tfine rfl trivial ?_
  refine GO.callPlain (v := .agg #[I (addW b (alc r)).1, I (addW b (alc r)).2]) rfl rfl rfl rfl (fun args w => Try.call48 args w) (fun ρ w hm _ => gauge_Total_1_any b.1 b.2 (alc r).1 (alc r).2 w) ?_
  refine GO.fin tfine rfl trivial ?_
  exact G.ret (endCap.ret rfl rfl rfl)
end Go.Proofs.Ytiicemgngccicaa
/- Chapter 15: what reports say together, and their totals. -/
set_option linter.unusedVariables false
set_option linter.unusedSimpArgs false
set_option maxRecDepth 8000
set_option maxHeartbeats 1000000
namespace Go.Proofs.Ytiicemgngccicaa
open Go.Sx Go.RowKit
def mis (l : List Rep) (r : Rep) : Bool := (r.s != (l.getD 0 rep0).s) || (r.d != (l.getD 0 rep0).d)
theorem mism_any (g : Nat) (A : Option Addr) (c : Nat) (l : List Rep) (r : Rep) (w : World) (hg : w.heap[g]? = some (.cells #[.slice A l.length c] 47 (0, 0))) (hl : RdRow w A l.length 8 (elR l)) (hap : ∀ a, A = some a → a.block ≠ g) (h0 : 0 < l.length) :
    Calls Try.prog 43 #[Rep.v r, .pointer (some ⟨g, 0, none⟩)] w fun e w' => e = .returned (.bool (mis l r)) ∧ Below w.heap.size w w' := by
  refine enterCap tfine (g := g) 47 [.inp 1000 A l.length c] Try.func43 rfl 24 Try.ntmps43 [.agg [.k (I r.d), .k (I r.p), .k (I r.h), .k (I r.s), .k (I r.vl), .k (I r.vh), .k (I r.al), .k (I r.ah)], .c (.ptr 1900 0 0 0)] [⟨1000, A, 8, l.length, elR l⟩] ⟨(by show 1000 ≠ 1900; decide), fun _ => hap, trivial⟩ hg rfl rfl ⟨hl, trivial⟩ ⟨.inl ⟨rfl, rfl, rfl⟩, trivial⟩
    ⟨⟨trivial, trivial, trivial, trivial, trivial, trivial, trivial, trivial, trivial⟩, rfl, trivial⟩ ?_
  refine G.seqR tfine rfl trivial ?_
  refine G.seqD tfine hmix [0, 1, 3, 0, 8, 24, 56, 120, 255, 511, 1023, 2047, 4095, 1023, 9215, 25599, 58367, 123903, 262143, 524287, 1048575] [] rfl rfl rfl rfl ?_ ?_
  · simp [AllP, condB]; omega
  exact G.ret (endCap.ret rfl rfl rfl)
def mV (b : Int × Int) (r : Rep) : Int × Int := meet b (vol r)
def mA (b : Int × Int) (r : Rep) : Int × Int := meet b (alc r)
def aV (b : Int × Int) (r : Rep) : Int × Int := addW b (vol r)
def aA (b : Int × Int) (r : Rep) : Int × Int := addW b (alc r)
def tog5 (l : List Rep) : Int × Int × Int × Int × Int :=
  if ((l.length : Int) == 0) = true then (0, 0, 0, 0, 9) else if decide ((l.length : Int) > 64) = true then (0, 0, 0, 0, 8) else if (!(l.all okR)) = true then (0, 0, 0, 0, 1) else if l.any (mis l) = true then (0, 0, 0, 0, 10)
  else if decide ((l.foldl mV (vol (l.getD 0 rep0))).1 > (l.foldl mV (vol (l.getD 0 rep0))).2) = true then (0, 0, 0, 0, 18)
  else ((l.foldl mV (vol (l.getD 0 rep0))).1, (l.foldl mV (vol (l.getD 0 rep0))).2, (l.foldl mA (alc (l.getD 0 rep0))).1, (l.foldl mA (alc (l.getD 0 rep0))).2, 0)
def B5 (x : Int × Int × Int × Int × Int) : Value := .tuple #[.agg #[I x.1, I x.2.1], .agg #[I x.2.2.1, I x.2.2.2.1], I x.2.2.2.2]
theorem together_any (A : Option Addr) (c : Nat) (l : List Rep) (w : World) (hl : RdRow w A l.length 8 (elR l)) (hm : l.length ≤ 4611686018427387904) :
    Calls Try.prog 20 #[.slice A l.length c] w fun e w' => e = .returned (B5 (tog5 l)) ∧ Below w.heap.size w w' := by
  refine enterPlain tfine Try.func20 rfl 55 Try.ntmps20 [.c (.inp 1000 A l.length c)] [⟨1000, A, 8, l.length, elR l⟩] rfl rfl ⟨hl, trivial⟩ ⟨.inl ⟨rfl, rfl, rfl⟩, trivial⟩ ?_
  refine G.seqR tfine rfl trivial ?_
  refine G.seq (G.block ?_)
  refine G.seqR tfine rfl trivial ?_
  refine G.cond rfl (fun h1 => ?_) (fun h1 => ?_)
  · refine G.seqR tfine rfl trivial ?_
    refine G.ret (endK.ret rfl ?_)
    rw [tog5, if_pos h1]; rfl
  refine G.seqR tfine rfl trivial ?_
  refine G.cond rfl (fun h2 => ?_) (fun h2 => ?_)
  · refine G.seqR tfine rfl trivial ?_
    refine G.ret (endK.ret rfl ?_)
    rw [tog5, if_neg (fne h1), if_pos h2]; rfl
  refine G.seqC tfine rfl trivial ?_
  refine GO.callPlain (v := .bool (l.all okR)) rfl rfl rfl rfl (fun args w => Try.call42 args w) (fun ρ w hs hok => rights_any A c l w (hs.row (cap := c) rfl (hok _ List.mem_cons_self)) hm) ?_
  refine GO.fin tfine rfl trivial ?_
  refine G.cond rfl (fun h3 => ?_) (fun h3 => ?_)
  · refine G.seqR tfine rfl trivial ?_
    refine G.ret (endK.ret rfl ?_)
    rw [tog5, if_neg (fne h1), if_neg (fne h2), if_pos h3]; rfl
  have h0 : 0 < l.length := by
    have : l.length ≠ 0 := by simpa using h1
    omega
  refine G.seqC tfine rfl trivial ?_
  refine GO.callPlain (v := .bool (l.any (mis l))) rfl rfl rfl rfl (fun args w => Try.call25 args w) (fun ρ w1 hs hok => ?_) ?_
  · have hk := hs.ok 1 _ rfl
    have hg : w1.heap[(ρ 1).1]? = some (.cells #[.slice A l.length c] 47 (0, 0)) := hk.2.2.1
    have hi : AC.ok ρ _ (.inp 1000 A l.length c) := hok _ List.mem_cons_self
    have hrow : RdRow w1 A l.length 8 (elR l) := hs.row (cap := c) rfl hi
    have hne : ∀ a, A = some a → a.block ≠ (ρ 1).1 := by
      intro a ha
      have h5 := hi.2 h0
      rw [ha] at h5
      injection h5 with h5
      rw [h5]
      exact (hs.ne 1 1000 _ _ rfl rfl trivial h0 (by decide)).symm
    have := containsFuncR_any 43 (mis l) (.pointer (some ⟨(ρ 1).1, 0, none⟩)) (fun args w => Try.call43 args w) A c l w1
      (fun w2 hb v hv => mism_any (ρ 1).1 A c l v w2 ((hb.block _ (Array.getElem?_eq_some_iff.1 hg).1).trans hg) (hrow.below hb) hne h0) hrow hm
    rw [firstI_any, any_getDg] at this
    show Calls Try.prog 25 #[.slice A l.length c, .func (.func 43) #[] #[.pointer (some ⟨(ρ 1).1, (ρ 1).2 + 0, none⟩)]] w1 _
    rw [hk.1]
    exact this
  refine GO.fin tfine rfl trivial ?_
  refine G.cond rfl (fun h4 => ?_) (fun h4 => ?_)
  · refine G.seqR tfine rfl trivial ?_
    refine G.ret (endK.ret rfl ?_)
    rw [tog5, if_neg (fne h1), if_neg (fne h2), if_neg (fne h3), if_pos h4]; rfl
  refine G.skip ?_
  refine G.seqR tfine rfl trivial ?_
  refine G.seqDraw hmix [0, 0, 2, 6, 14, 0, 63, 0, 255] [(8, 6)] rfl rfl rfl ?_
  refine GD.more tfine 0 rfl rfl ?_ ?_
  · simp [AllP, condB]; omega
  refine GD.call (v := .agg #[I (l.foldl mV (vol (l.getD 0 rep0))).1, I (l.foldl mV (vol (l.getD 0 rep0))).2]) 6 rfl rfl rfl rfl rfl (fun args w => Try.call45 args w) (fun m hle ρ w1 hs hok => ?_) ?_
  · have hk := hs.ok 5 _ (LeM.at hle rfl)
    have hg : w1.heap[(ρ 5).1]? = some (.cells #[.func (.func 44) #[] #[]] 68 (0, 0)) := hk.2.2.1
    have hrow : RdRow w1 A l.length 8 (elR l) := hs.row (cap := c) (LeM.at hle rfl) (hok _ List.mem_cons_self)
    have := foldP_any 46 (.pointer (some ⟨(ρ 5).1, 0, none⟩)) mV (fun args w => Try.call46 args w) A c l (vol (l.getD 0 rep0)) w1
      (fun w2 hb b r => meetV_any (ρ 5).1 b r w2 ((hb.block _ (Array.getElem?_eq_some_iff.1 hg).1).trans hg)) hrow hm
    show Calls Try.prog 45 #[.slice A l.length c, .agg #[I (l.getD 0 rep0).vl, I (l.getD 0 rep0).vh], .func (.func 46) #[] #[.pointer (some ⟨(ρ 5).1, (ρ 5).2 + 0, none⟩)]] w1 _
    rw [hk.1]
    exact this
  refine GD.fin tfine 7 rfl rfl ?_ ?_
  · simp [AllP, condB]
  refine G.seqDraw hmix [0, 0, 2, 6, 14, 0, 63, 0, 255] [(8, 7)] rfl rfl rfl ?_
  refine GD.more tfine 0 rfl rfl ?_ ?_
  · simp [AllP, condB]; omega
  refine GD.call (v := .agg #[I (l.foldl mA (alc (l.getD 0 rep0))).1, I (l.foldl mA (alc (l.getD 0 rep0))).2]) 6 rfl rfl rfl rfl rfl (fun args w => Try.call45 args w) (fun m hle ρ w1 hs hok => ?_) ?_
  · have hk := hs.ok 5 _ (LeM.at hle rfl)
    have hg : w1.heap[(ρ 5).1]? = some (.cells #[.func (.func 44) #[] #[]] 68 (0, 0)) := hk.2.2.1
    have hrow : RdRow w1 A l.length 8 (elR l) := hs.row (cap := c) (LeM.at hle rfl) (hok _ List.mem_cons_self)
    have := foldP_any 47 (.pointer (some ⟨(ρ 5).1, 0, none⟩)) mA (fun args w => Try.call47 args w) A c l (alc (l.getD 0 rep0)) w1
      (fun w2 hb b r => meetA_any (ρ 5).1 b r w2 ((hb.block _ (Array.getElem?_eq_some_iff.1 hg).1).trans hg)) hrow hm
    show Calls Try.prog 45 #[.slice A l.length c, .agg #[I (l.getD 0 rep0).al, I (l.getD 0 rep0).ah], .func (.func 47) #[] #[.pointer (some ⟨(ρ 5).1, (ρ 5).2 + 0, none⟩)]] w1 _
    rw [hk.1]
    exact this
  refine GD.fin tfine 7 rfl rfl ?_ ?_
  · simp [AllP, condB]
  refine G.seq (G.seqR tfine rfl trivial ?_)
  refine G.cond rfl (fun h5 => ?_) (fun h5 => ?_)
  · refine G.seqR tfine rfl trivial ?_
    refine G.ret (endK.ret rfl ?_)
    rw [tog5, if_neg (fne h1), if_neg (fne h2), if_neg (fne h3), if_neg (fne h4), if_pos h5]; rfl
  refine G.skip ?_
  refine G.seqD tfine hmix [0, 0, 1, 7, 15] [(2, 2), (3, 3)] rfl rfl rfl rfl trivial ?_
  refine G.ret (endK.ret rfl ?_)
  rw [tog5, if_neg (fne h1), if_neg (fne h2), if_neg (fne h3), if_neg (fne h4), if_neg (fne h5)]; rfl
def tot5 (l : List Rep) : Int × Int × Int × Int × Int :=
  if decide ((l.length : Int) > 64) = true then (0, 0, 0, 0, 8) else if (!(l.all okR)) = true then (0, 0, 0, 0, 1)
  else ((l.foldl aV (0, 0)).1, (l.foldl aV (0, 0)).2, (l.foldl aA (0, 0)).1, (l.foldl aA (0, 0)).2, 0)
theorem total_any (A : Option Addr) (c : Nat) (l : List Rep) (w : World) (hl : RdRow w A l.length 8 (elR l)) (hm : l.length ≤ 4611686018427387904) :
    Calls Try.prog 23 #[.slice A l.length c] w fun e w' => e = .returned (B5 (tot5 l)) ∧ Below w.heap.size w w' := by
  refine enterPlain tfine Try.func23 rfl 28 Try.ntmps23 [.c (.inp 1000 A l.length c)] [⟨1000, A, 8, l.length, elR l⟩] rfl rfl ⟨hl, trivial⟩ ⟨.inl ⟨rfl, rfl, rfl⟩, trivial⟩ ?_
  refine G.seqR tfine rfl trivial ?_
  refine G.seq (G.seqR tfine rfl trivial ?_)
  refine G.cond rfl (fun h2 => ?_) (fun h2 => ?_)
  · refine G.seqR tfine rfl trivial ?_
    refine G.ret (endK.ret rfl ?_)
    rw [tot5, if_pos h2]; rfl
  refine G.skip ?_
  refine G.seq (G.seqC tfine rfl trivial ?_)
  refine GO.callPlain (v := .bool (l.all okR)) rfl rfl rfl rfl (fun args w => Try.call42 args w) (fun ρ w hs hok => rights_any A c l w (hs.row (cap := c) rfl (hok _ List.mem_cons_self)) hm) ?_
  refine GO.fin tfine rfl trivial ?_
  refine G.cond rfl (fun h3 => ?_) (fun h3 => ?_)
  · refine G.seqR tfine rfl trivial ?_
    refine G.ret (endK.ret rfl ?_)
    rw [tot5, if_neg (fne h2), if_pos h3]; rfl
  refine G.skip ?_
  refine G.seqR tfine rfl trivial ?_
  refine G.seqC tfine rfl trivial ?_
  refine GO.callPlain (v := .agg #[I (l.foldl aV (0, 0)).1, I (l.foldl aV (0, 0)).2]) rfl rfl rfl rfl (fun args w => Try.call45 args w) (fun ρ w1 hs hok => ?_) ?_
  · have hk := hs.ok 5 _ rfl
    have hg : w1.heap[(ρ 5).1]? = some (.cells #[.func (.func 48) #[] #[]] 68 (0, 0)) := hk.2.2.1
    have hrow : RdRow w1 A l.length 8 (elR l) := hs.row (cap := c) rfl (hok _ List.mem_cons_self)
    have := foldP_any 49 (.pointer (some ⟨(ρ 5).1, 0, none⟩)) aV (fun args w => Try.call49 args w) A c l (0, 0) w1
      (fun w2 hb b r => addV_any (ρ 5).1 b r w2 ((hb.block _ (Array.getElem?_eq_some_iff.1 hg).1).trans hg)) hrow hm
    show Calls Try.prog 45 #[.slice A l.length c, .agg #[I 0, I 0], .func (.func 49) #[] #[.pointer (some ⟨(ρ 5).1, (ρ 5).2 + 0, none⟩)]] w1 _
    rw [hk.1]
    exact this
  refine GO.fin tfine rfl trivial ?_
  refine G.seqC tfine rfl trivial ?_
  refine GO.callPlain (v := .agg #[I (l.foldl aA (0, 0)).1, I (l.foldl aA (0, 0)).2]) rfl rfl rfl rfl (fun args w => Try.call45 args w) (fun ρ w1 hs hok => ?_) ?_
  · have hk := hs.ok 5 _ rfl
    have hg : w1.heap[(ρ 5).1]? = some (.cells #[.func (.func 48) #[] #[]] 68 (0, 0)) := hk.2.2.1
    have hrow : RdRow w1 A l.length 8 (elR l) := hs.row (cap := c) rfl (hok _ List.mem_cons_self)
    have := foldP_any 50 (.pointer (some ⟨(ρ 5).1, 0, none⟩)) aA (fun args w => Try.call50 args w) A c l (0, 0) w1
      (fun w2 hb b r => addA_any (ρ 5).1 b r w2 ((hb.block _ (Array.getElem?_eq_some_iff.1 hg).1).trans hg)) hrow hm
    show Calls Try.prog 45 #[.slice A l.length c, .agg #[I 0, I 0], .func (.func 50) #[] #[.pointer (some ⟨(ρ 5).1, (ρ 5).2 + 0, none⟩)]] w1 _
    rw [hk.1]
    exact this
  refine GO.fin tfine rfl trivial ?_
  refine G.seqD tfine hmix [0, 0, 1, 7, 15] [(2, 2), (3, 3)] rfl rfl rfl rfl trivial ?_
  refine G.ret (endK.ret rfl ?_)
  rw [tot5, if_neg (fne h2), if_neg (fne h3)]; rfl
end Go.Proofs.Ytiicemgngccicaa
/- Chapter 15: the reference's Together and Total. -/
set_option linter.unusedVariables false
set_option linter.unusedSimpArgs false
set_option maxRecDepth 8000
set_option maxHeartbeats 1000000
namespace Go.Proofs.Ytiicemgngccicaa
open Go.Sx Go.RowKit
theorem reading_eq (a b c d : Int) : (gauge_Check a b c d == 0) = spileref15_IsReading a b c d := by
  unfold gauge_Check spileref15_IsReading gauge_in
  rw [heat_eq]
  unfold thermal_heat
  rw [Bool.eq_iff_iff]
  split
  · rename_i h
    simp at h ⊢
    omega
  · rename_i h
    simp at h ⊢
    omega
theorem refRight_eq (r : Rep) : spileref15_Right r.d r.p r.h r.s r.vl r.vh r.al r.ah = okR r := by
  unfold spileref15_Right okR gauge_Right
  rw [reading_eq]
  cases spileref15_IsReading r.d r.p r.h r.s with
  | false => rfl
  | true =>
    have e : spileref15_times r.vl r.vh r.s = gauge_times r.vl r.vh r.s := rfl
    rw [e]
    by_cases h1 : r.vl ≥ 0
    · by_cases h2 : r.vl ≤ r.vh
      · by_cases h3 : r.vh ≤ 34359738368
        · rw [if_neg (by simp; omega), decide_eq_true h1, decide_eq_true h2, decide_eq_true h3]
          rfl
        · rw [if_pos (by simp; omega), decide_eq_false h3]
          simp
      · rw [if_pos (by simp; omega), decide_eq_false h2]
        simp
    · rw [if_pos (by simp; omega), decide_eq_false h1]
      simp
theorem refRight_any (r : Rep) (w : World) : Calls Try.prog 28 #[Rep.v r] w fun e w' => e = .returned (.bool (okR r)) ∧ Below w.heap.size w w' := by
  have := spileref15_Right_any r.d r.p r.h r.s r.vl r.vh r.al r.ah w
  rw [refRight_eq] at this
  exact this
theorem all_of {α : Type} {q : α → Bool} {l : List α} {d : α} (h : ∀ j, j < l.length → q (l.getD j d) = true) : l.all q = true := by
  rw [List.all_eq_true]
  intro x hx
  obtain ⟨i, hi, rfl⟩ := List.mem_iff_getElem.1 hx
  have := h i hi
  rwa [List.getD_eq_getElem?_getD, List.getElem?_eq_getElem hi] at this
theorem all_not {α : Type} {q : α → Bool} {l : List α} {d : α} {k : Nat} (hk : k < l.length) (h : q (l.getD k d) = false) : l.all q = false := by
  cases ha : l.all q with
  | false => rfl
  | true => rw [List.all_eq_true] at ha; rw [ha _ (getD_mem hk)] at h; cases h
theorem take_foldl {α β : Type} (f : β → α → β) (b : β) (l : List α) (d : α) (k : Nat) (hk : k < l.length) : (l.take (k + 1)).foldl f b = f ((l.take k).foldl f b) (l.getD k d) := by
  rw [List.take_succ_eq_append_getElem hk, List.foldl_append, List.getD_eq_getElem?_getD, List.getElem?_eq_getElem hk]
  rfl
theorem refTotal_any (A : Option Addr) (c : Nat) (l : List Rep) (w : World) (hl : RdRow w A l.length 8 (elR l)) (hm : l.length ≤ 4611686018427387904) :
    Calls Try.prog 24 #[.slice A l.length c] w fun e w' => e = .returned (B5 (tot5 l)) ∧ Below w.heap.size w w' := by
  refine enterPlain tfine Try.func24 rfl 71 Try.ntmps24 [.c (.inp 1000 A l.length c)] [⟨1000, A, 8, l.length, elR l⟩] rfl rfl ⟨hl, trivial⟩ ⟨.inl ⟨rfl, rfl, rfl⟩, trivial⟩ ?_
  refine G.seqR tfine rfl trivial ?_
  refine G.seq (G.seqR tfine rfl trivial ?_)
  refine G.cond rfl (fun h2 => ?_) (fun h2 => ?_)
  · refine G.seqR tfine rfl trivial ?_
    refine G.ret (endK.ret rfl ?_)
    rw [tot5, if_pos h2]; rfl
  refine G.skip ?_
  refine G.seqR tfine rfl trivial ?_
  refine G.seq (G.seqR tfine rfl trivial ?_)
  refine G.block (G.loop (fun k : Nat => St.of [(0, .v (.c (.inp 1000 A l.length c))), (2, .v (.c (.ptr 2 0 0 0))), (3, .v (.c (.ptr 3 0 0 0))), (4, .v (.c (.k (I 0)))), (5, .v (.c (.ptr 5 0 0 0))), (6, .v (.c (.ptr 6 0 0 0))), (7, .v (.c (.k (I k))))]
      [(2, .var 30 [.k (I 0), .k (I 0)]), (3, .var 30 [.k (I 0), .k (I 0)]), (5, .var 30 [.k (I ((l.take k).foldl aV (0, 0)).1), .k (I ((l.take k).foldl aV (0, 0)).2)]), (6, .var 30 [.k (I ((l.take k).foldl aA (0, 0)).1), .k (I ((l.take k).foldl aA (0, 0)).2)]), (1000, .ro 8 l.length (elR l))])
    (fun k => k ≤ l.length ∧ ∀ j, j < k → okR (l.getD j rep0) = true) (fun k => l.length - k) 0 ⟨by omega, fun j h5 => by omega⟩
    (St.le_of rfl ⟨⟨_, rfl, Blk.le_refl _⟩, ⟨_, rfl, Blk.le_refl _⟩, ⟨_, rfl, Blk.le_refl _⟩, ⟨_, rfl, Blk.le_refl _⟩, ⟨_, rfl, Blk.le_refl _⟩, trivial⟩ ⟨rfl, rfl, rfl, rfl, rfl, rfl, rfl, trivial⟩) ?_)
  rintro k ⟨hk2, hpre⟩
  refine G.seq (G.seqR tfine rfl trivial ?_)
  refine G.cond rfl (fun h => ?_) (fun h => ?_)
  rotate_left
  · have h := of_decide_eq_false h
    have : k = l.length := by omega
    subst this
    refine G.exit ?_
    refine G.seqD tfine hmix [0, 0, 1, 7, 15] [(2, 2), (3, 3)] rfl rfl rfl rfl trivial ?_
    refine G.ret (endK.ret rfl ?_)
    rw [tot5, if_neg (fne h2), if_neg (by rw [all_of hpre]; simp), List.take_length]; rfl
  have h := of_decide_eq_true h
  have hlt : k < l.length := by omega
  refine G.skip ?_
  refine G.seq (G.block ?_)
  refine G.seq (G.seqC tfine rfl ?_ ?_)
  · simp [AllP]; omega
  rw [Int.toNat_natCast]
  refine GO.callPlain (v := .bool (okR (l.getD k rep0))) rfl rfl rfl rfl (fun args w => Try.call28 args w) (fun ρ w hm _ => refRight_any (l.getD k rep0) w) ?_
  refine GO.fin tfine rfl trivial ?_
  refine G.cond rfl (fun h3 => ?_) (fun h3 => ?_)
  · refine G.seqR tfine rfl trivial ?_
    refine G.ret (endK.ret rfl ?_)
    rw [tot5, if_neg (fne h2), if_pos (by rw [all_not hlt (by simpa using h3)]; rfl)]; rfl
  refine G.skip ?_
  refine G.seqD tfine hmix [0, 1, 0, 0, 12, 28, 60, 124, 255, 0, 512, 0, 0, 6144, 14336, 30720, 63488, 130560, 2047, 264191, 1048575, 2097151] [(19, 5), (21, 5)] rfl rfl rfl rfl ?_ ?_
  · simp [AllP]; omega
  rw [Int.toNat_natCast]
  refine G.regD tfine hmix [0, 1, 0, 0, 12, 28, 60, 124, 255, 0, 512, 0, 0, 6144, 14336, 30720, 63488, 130560, 2047, 264191, 1048575, 2097151] [(19, 6), (21, 6)] rfl rfl rfl rfl ?_ ?_
  · simp [AllP]; omega
  rw [Int.toNat_natCast]
  refine G.reg tfine rfl trivial ?_
  rw [IntWalk.i64_in ((k : Int) + 1) (by omega)]
  have e1 := take_foldl aV (0, 0) l rep0 k hlt
  have e2 := take_foldl aA (0, 0) l rep0 k hlt
  refine ⟨k + 1, ⟨hlt, fun j h8 => ?_⟩, (by show l.length - (k + 1) < l.length - k; omega), ?_⟩
  · by_cases e : j = k
    · rw [e]; simpa using h3
    · exact hpre j (by omega)
  · simp only [e1, e2]
    exact St.le_of rfl ⟨⟨_, rfl, Blk.le_refl _⟩, ⟨_, rfl, Blk.le_refl _⟩, ⟨_, rfl, Blk.le_refl _⟩, ⟨_, rfl, Blk.le_refl _⟩, ⟨_, rfl, Blk.le_refl _⟩, trivial⟩ ⟨rfl, rfl, rfl, rfl, rfl, rfl, rfl, trivial⟩
/-! ### The bounds together: alcohol is volume times strength -/
theorem meet_eq (a b : Int × Int) : meet a b = (if b.1 > a.1 then b.1 else a.1, if b.2 < a.2 then b.2 else a.2) := rfl
theorem okR_facts {r : Rep} (h : okR r = true) : (0 ≤ r.s ∧ r.s ≤ 10000) ∧ 0 ≤ r.vl ∧ r.vl ≤ r.vh ∧ r.vh ≤ 34359738368 ∧ r.al = r.vl * r.s ∧ r.ah = r.vh * r.s := by
  unfold okR gauge_Right at h
  rw [reading_eq] at h
  simp only [Bool.and_eq_true, decide_eq_true_eq, beq_iff_eq] at h
  obtain ⟨⟨⟨⟨h1, h2⟩, h3⟩, h4⟩, h5, h6⟩ := h
  have hs : 0 ≤ r.s ∧ r.s ≤ 10000 := by
    unfold spileref15_IsReading at h1
    simp at h1
    omega
  have m1 : 0 ≤ r.vl * r.s := Int.mul_nonneg h2 hs.1
  have m2 : r.vl * r.s ≤ r.vh * r.s := Int.mul_le_mul_of_nonneg_right h3 hs.1
  have m3 : r.vh * r.s ≤ 34359738368 * 10000 := Int.mul_le_mul h4 hs.2 hs.1 (by decide)
  unfold gauge_times at h5 h6
  rw [IntWalk.i64_in (r.vl * r.s) (by omega)] at h5
  rw [IntWalk.i64_in (r.vh * r.s) (by omega)] at h6
  exact ⟨hs, h2, h3, h4, h5, h6⟩
theorem fold_times (l : List Rep) (s : Int) (hs : 0 ≤ s) : ∀ (v : Int × Int), (∀ r ∈ l, r.s = s ∧ okR r = true) → l.foldl mA (v.1 * s, v.2 * s) = ((l.foldl mV v).1 * s, (l.foldl mV v).2 * s) := by
  induction l with
  | nil => intro v _; rfl
  | cons r l ih =>
    intro v h
    obtain ⟨e, ho⟩ := h r (by simp)
    have hf := okR_facts ho
    rw [e] at hf
    have hstep : mA (v.1 * s, v.2 * s) r = ((mV v r).1 * s, (mV v r).2 * s) := by
      simp only [mA, mV, meet_eq, alc, vol]
      rw [hf.2.2.2.2.1, hf.2.2.2.2.2]
      refine Prod.ext ?_ ?_
      · simp only
        by_cases h1 : r.vl > v.1
        · rw [if_pos h1]
          by_cases h2 : r.vl * s > v.1 * s
          · rw [if_pos h2]
          · rw [if_neg h2]
            have := Int.mul_le_mul_of_nonneg_right (show v.1 ≤ r.vl by omega) hs
            omega
        · rw [if_neg h1, if_neg]
          have := Int.mul_le_mul_of_nonneg_right (show r.vl ≤ v.1 by omega) hs
          omega
      · simp only
        by_cases h1 : r.vh < v.2
        · rw [if_pos h1]
          by_cases h2 : r.vh * s < v.2 * s
          · rw [if_pos h2]
          · rw [if_neg h2]
            have := Int.mul_le_mul_of_nonneg_right (show r.vh ≤ v.2 by omega) hs
            omega
        · rw [if_neg h1, if_neg]
          have := Int.mul_le_mul_of_nonneg_right (show v.2 ≤ r.vh by omega) hs
          omega
    rw [List.foldl_cons, List.foldl_cons, hstep, ih _ fun x hx => h x (by simp [hx])]
theorem fold_bd (l : List Rep) : ∀ (v : Int × Int), (0 ≤ v.1 ∧ v.1 ≤ 34359738368) → (0 ≤ v.2 ∧ v.2 ≤ 34359738368) → (∀ r ∈ l, okR r = true) → (0 ≤ (l.foldl mV v).1 ∧ (l.foldl mV v).1 ≤ 34359738368) ∧ (0 ≤ (l.foldl mV v).2 ∧ (l.foldl mV v).2 ≤ 34359738368) := by
  induction l with
  | nil => intro v h1 h2 _; exact ⟨h1, h2⟩
  | cons r l ih =>
    intro v h1 h2 h
    have hf := okR_facts (h r (by simp))
    rw [List.foldl_cons]
    refine ih _ ?_ ?_ fun x hx => h x (by simp [hx])
    · simp only [mV, meet_eq, vol]
      split <;> omega
    · simp only [mV, meet_eq, vol]
      split <;> omega
end Go.Proofs.Ytiicemgngccicaa
/- The symbolic executor, part Y: functions that answer a struct whose first part is a row, and calls of them. Generic over P. -/
set_option linter.unusedVariables false
set_option linter.unusedSimpArgs false
namespace Go.Sx
open Go.RowKit
section
variable {P : Program} {E : Env} {K : Exit → St → Prop} {T : Tab}
def tabAt (m : Mem) (n sz : Nat) (el : Nat → List Value) (post : List Value) : TV → Prop
  | .v (.agg (a :: r)) => r = post.map .k ∧ rowAt m n sz el (.v (.c a))
  | _ => False
theorem tabAt_v {m : Mem} {n sz : Nat} {el : Nat → List Value} {post : List Value} {tv : TV} (h : tabAt m n sz el post tv) : ∃ av, tv = .v av := by
  unfold tabAt at h
  split at h
  · exact ⟨_, rfl⟩
  · cases h
def endTab (T : Tab) (fn : Func) (n sz : Nat) (el : Nat → List Value) (post : List Value) : Exit → St → Prop := fun e st => (e = .ret ∨ e = .normal) ∧ ∃ r, fn.results.toList = [r] ∧ tabAt st.m n sz el post (resOne T st r)
theorem enterTab (hT : Tab.fine P T) {f : FuncId} {fn : Func} {c : Code} {args : Array Value} {w : World} (n sz : Nat) (el : Nat → List Value) (post : List Value) (hf : P.funcs[f]? = some fn) (hb : fn.body = some c) (N : Nat) (hN : fn.ntmps = N) (avs : List AV) (l : List Inp)
    (hargs : args = (avs.map (AV.conc (inpsV l))).toArray) (hl : Nat.ble avs.length N = true) (hr : allRd w l) (ha : allInps l avs)
    (h : G P ⟨w, [], N⟩ (endTab T fn n sz el post) c ⟨argsT avs, lkM (inpsM l)⟩) : Calls P f args w fun e w' => ∃ A c, e = .returned (.agg (Value.slice A n c :: post).toArray) ∧ RdNew w w' A n sz el ∧ Below w.heap.size w w' := by
  subst hN
  refine enter (E := ⟨w, [], fn.ntmps⟩) hf hb (inpsV l) (Sat.init hr ha hargs (Nat.le_of_ble_eq_true hl)) (h.mono fun e st hk => ⟨hk.1, fun ρ a w' hs => ?_⟩)
  obtain ⟨r, h1, h2⟩ := hk.2
  obtain ⟨av, hav⟩ := tabAt_v h2
  obtain ⟨h3, h4⟩ := resOne_run hT hs hav
  rw [hav] at h2
  unfold tabAt at h2
  split at h2
  · rename_i a r' e1
    injection e1 with e1
    subst e1
    obtain ⟨rfl, h5⟩ := h2
    obtain ⟨A, c, h6, h7⟩ := rowAt_new hs.mem (tv := .v (.c a)) (v := a.conc ρ) ⟨h4 a (by simp), rfl⟩ h5
    refine ⟨_, results_one h1 h3, A, c, ?_, h7, hs.mem.fr.toBelow⟩
    congr 1
    show Value.agg ((a :: post.map AC.k).map (AC.conc ρ)).toArray = _
    rw [List.map_cons, map_conc_k, h6]
  · cases h2
theorem endTab.ret {fn : Func} {n sz : Nat} {el : Nat → List Value} {post : List Value} {st : St} {r : ResultVar} (h : fn.results.toList = [r]) (hr : tabAt st.m n sz el post (resOne T st r)) : endTab T fn n sz el post .ret st := ⟨.inl rfl, r, h, hr⟩
theorem GO.callTab {ops : Array Oper} {rest : List Oper} {o : Oper} {c : Call} {f : FuncId} {avs : List AV} {caps : List Cap} {t : Nat → TV} {m : Mem} {x n sz : Nat} {el : Nat → List Value} (post : List Value) (hd : o.dst = some x) (hx : m x = none) (hxb : Nat.blt x 1000 = true) (hdN : Nat.blt x E.N = true)
    (hg : o.guard = none) (hop : o.op = .call c) (he : callE t c = .mk f avs caps)
    (hcf : ∀ (args : Array Value) (w : World), (callFunc f args).run P w = .ok (.enter f args) w)
    (hc : ∀ ρ w, SatM E ρ m w → (∀ v ∈ avs, v.ok ρ m) → Calls P f (avs.map (AV.conc ρ) ++ caps.map (Cap.conc ρ)).toArray w fun e w' => ∃ A k, e = .returned (.agg (Value.slice A n k :: post).toArray) ∧ RdNew w w' A n sz el ∧ Below w.heap.size w w')
    (k : ∀ A k, GO P E ops K rest ⟨up t x (.v (.agg (.inp x A n k :: post.map .k))), up m x (some (.ro sz n el))⟩) : GO P E ops K (o :: rest) ⟨t, m⟩ := by
  intro ρ a w hs
  refine GO.call hg hop he hcf (fun ρ a w hs hok _ => (hc ρ w hs.mem hok).mono ?_) ρ a w hs
  rintro e w' ⟨A, cp, rfl, hn, hb⟩
  obtain ⟨ρ', h1, h2, h3⟩ := hs.mem.newRo hb (cap := cp) hx (by simpa [Nat.blt_eq] using hxb) hn
  have hmv := hs.move h2 (fun y hy => isSome_up y hy) h1
  refine ⟨_, ρ', _, rfl, ?_, k A cp⟩
  rw [hd]
  refine hmv.put (by simpa [Nat.blt_eq] using hdN) ⟨?_, ?_⟩
  · intro b hb
    cases hb with
    | head => exact h3
    | tail _ hb =>
      obtain ⟨v, _, rfl⟩ := List.mem_map.1 hb
      trivial
  · show Value.agg _ = Value.agg ((AC.inp x A n cp :: post.map AC.k).map (AC.conc ρ')).toArray
    rw [List.map_cons, map_conc_k]
    rfl
end
end Go.Sx
/- Chapter 15: the reference's Together; copies; the examples of the chapter. -/
set_option linter.unusedVariables false
set_option linter.unusedSimpArgs false
set_option maxRecDepth 8000
set_option maxHeartbeats 1000000
namespace Go.Proofs.Ytiicemgngccicaa
open Go.Sx Go.RowKit
theorem refTogether_any (A : Option Addr) (c : Nat) (l : List Rep) (w : World) (hl : RdRow w A l.length 8 (elR l)) (hm : l.length ≤ 4611686018427387904) :
    Calls Try.prog 22 #[.slice A l.length c] w fun e w' => e = .returned (B5 (tog5 l)) ∧ Below w.heap.size w w' := by
  refine enterPlain tfine Try.func22 rfl 105 Try.ntmps22 [.c (.inp 1000 A l.length c)] [⟨1000, A, 8, l.length, elR l⟩] rfl rfl ⟨hl, trivial⟩ ⟨.inl ⟨rfl, rfl, rfl⟩, trivial⟩ ?_
  refine G.seqR tfine rfl trivial ?_
  refine G.seq (G.seqR tfine rfl trivial ?_)
  refine G.cond rfl (fun h1 => ?_) (fun h1 => ?_)
  · refine G.seqR tfine rfl trivial ?_
    refine G.ret (endK.ret rfl ?_)
    rw [tog5, if_pos h1]; rfl
  refine G.skip ?_
  refine G.seq (G.seqR tfine rfl trivial ?_)
  refine G.cond rfl (fun h2 => ?_) (fun h2 => ?_)
  · refine G.seqR tfine rfl trivial ?_
    refine G.ret (endK.ret rfl ?_)
    rw [tog5, if_neg (fne h1), if_pos h2]; rfl
  refine G.skip ?_
  have h0 : 0 < l.length := by
    have : l.length ≠ 0 := by simpa using h1
    omega
  have h2' := of_decide_eq_false h2
  refine G.seq (G.seqR tfine rfl trivial ?_)
  refine G.block (G.loop (fun k : Nat => St.of [(0, .v (.c (.inp 1000 A l.length c))), (2, .v (.c (.ptr 2 0 0 0))), (3, .v (.c (.ptr 3 0 0 0))), (4, .v (.c (.k (I 0)))), (5, .v (.c (.k (I k))))]
      [(2, .var 30 [.k (I 0), .k (I 0)]), (3, .var 30 [.k (I 0), .k (I 0)]), (1000, .ro 8 l.length (elR l))])
    (fun k => k ≤ l.length ∧ ∀ j, j < k → okR (l.getD j rep0) = true) (fun k => l.length - k) 0 ⟨by omega, fun j h5 => by omega⟩
    (St.le_of rfl ⟨⟨_, rfl, Blk.le_refl _⟩, ⟨_, rfl, Blk.le_refl _⟩, ⟨_, rfl, Blk.le_refl _⟩, trivial⟩ ⟨rfl, rfl, rfl, rfl, rfl, trivial⟩) ?_)
  rintro k ⟨hk2, hpre⟩
  refine G.seq (G.seqR tfine rfl trivial ?_)
  refine G.cond rfl (fun h => ?_) (fun h => ?_)
  · have h := of_decide_eq_true h
    have hlt : k < l.length := by omega
    refine G.skip ?_
    refine G.seq (G.block ?_)
    refine G.seqC tfine rfl ?_ ?_
    · simp [AllP]; omega
    rw [Int.toNat_natCast]
    refine GO.callPlain (v := .bool (okR (l.getD k rep0))) rfl rfl rfl rfl (fun args w => Try.call28 args w) (fun ρ w hm _ => refRight_any (l.getD k rep0) w) ?_
    refine GO.fin tfine rfl trivial ?_
    refine G.cond rfl (fun h3 => ?_) (fun h3 => ?_)
    · refine G.seqR tfine rfl trivial ?_
      refine G.ret (endK.ret rfl ?_)
      rw [tog5, if_neg (fne h1), if_neg (fne h2), if_pos (by rw [all_not hlt (by simpa using h3)]; rfl)]; rfl
    refine G.skip ?_
    refine G.reg tfine rfl trivial ?_
    rw [IntWalk.i64_in ((k : Int) + 1) (by omega)]
    refine ⟨k + 1, ⟨hlt, fun j h8 => ?_⟩, (by show l.length - (k + 1) < l.length - k; omega), St.le_of rfl ⟨⟨_, rfl, Blk.le_refl _⟩, ⟨_, rfl, Blk.le_refl _⟩, ⟨_, rfl, Blk.le_refl _⟩, trivial⟩ ⟨rfl, rfl, rfl, rfl, rfl, trivial⟩⟩
    by_cases e : j = k
    · rw [e]; simpa using h3
    · exact hpre j (by omega)
  have h := of_decide_eq_false h
  have hall : l.all okR = true := all_of (d := rep0) fun j hj => hpre j (by omega)
  have h3 : ¬ (!(l.all okR)) = true := by rw [hall]; simp
  refine G.exit ?_
  refine G.seqR tfine rfl ?_ ?_
  · simp [AllP]; omega
  have hmm : ∀ x : Int × Int, meet x x = x := fun x => by rw [meet_eq]; simp
  have first : (l.take 1).foldl mV (vol (l.getD 0 rep0)) = vol (l.getD 0 rep0) := by
    rw [take_foldl mV _ l rep0 0 h0]
    exact hmm _
  refine G.seq (G.seqR tfine rfl trivial ?_)
  refine G.block (G.loop (fun k : Nat => St.of [(0, .v (.c (.inp 1000 A l.length c))), (2, .v (.c (.ptr 2 0 0 0))), (3, .v (.c (.ptr 3 0 0 0))), (4, .v (.c (.k (I 0)))), (6, .v (.c (.ptr 6 0 0 0))), (7, .v (.c (.k (I k))))]
      [(2, .var 30 [.k (I 0), .k (I 0)]), (3, .var 30 [.k (I 0), .k (I 0)]), (6, .var 30 [.k (I ((l.take k).foldl mV (vol (l.getD 0 rep0))).1), .k (I ((l.take k).foldl mV (vol (l.getD 0 rep0))).2)]), (1000, .ro 8 l.length (elR l))])
    (fun k => 1 ≤ k ∧ k ≤ l.length ∧ ∀ j, j < k → mis l (l.getD j rep0) = false) (fun k => l.length - k) 1 ⟨Nat.le_refl _, h0, fun j h5 => ?_⟩ ?_ ?_)
  · have : j = 0 := by omega
    subst this
    simp [mis]
  · simp only [first]
    exact St.le_of rfl ⟨⟨_, rfl, Blk.le_refl _⟩, ⟨_, rfl, Blk.le_refl _⟩, ⟨_, rfl, Blk.le_refl _⟩, ⟨_, rfl, Blk.le_refl _⟩, trivial⟩ ⟨rfl, rfl, rfl, rfl, rfl, rfl, trivial⟩
  rintro k ⟨hk1, hk2, hpre⟩
  refine G.seq (G.seqR tfine rfl trivial ?_)
  refine G.cond rfl (fun h => ?_) (fun h => ?_)
  · have h := of_decide_eq_true h
    have hlt : k < l.length := by omega
    refine G.skip ?_
    refine G.seq (G.block ?_)
    refine G.seq (G.seqD tfine hmix [0, 0, 3, 7, 15, 31, 0, 64, 192, 448, 960, 2047, 4095, 8191, 8191, 32767, 65535, 131071, 262143, 8191, 532479, 1581055, 3678207, 7872511, 16777215, 33554431] [] rfl rfl rfl rfl ?_ ?_)
    · simp [AllP, condB]; omega
    rw [Int.toNat_natCast]
    refine G.cond (b := mis l (l.getD k rep0)) rfl (fun h4 => ?_) (fun h4 => ?_)
    · refine G.seqR tfine rfl trivial ?_
      refine G.ret (endK.ret rfl ?_)
      rw [tog5, if_neg (fne h1), if_neg (fne h2), if_neg h3, if_pos (any_of_true hlt h4)]; rfl
    refine G.skip ?_
    refine G.regD tfine hmix [0, 1, 0, 0, 12, 28, 60, 124, 255, 0, 512, 0, 0, 6144, 14336, 30720, 63488, 130560, 2047, 264191, 1048575, 2097151] [(19, 6), (21, 6)] rfl rfl rfl rfl ?_ ?_
    · simp [AllP]; omega
    rw [Int.toNat_natCast]
    refine G.reg tfine rfl trivial ?_
    rw [IntWalk.i64_in ((k : Int) + 1) (by omega)]
    have e1 := take_foldl mV (vol (l.getD 0 rep0)) l rep0 k hlt
    refine ⟨k + 1, ⟨by omega, hlt, fun j h8 => ?_⟩, (by show l.length - (k + 1) < l.length - k; omega), ?_⟩
    · by_cases e : j = k
      · rw [e]; exact h4
      · exact hpre j (by omega)
    · simp only [e1]
      exact St.le_of rfl ⟨⟨_, rfl, Blk.le_refl _⟩, ⟨_, rfl, Blk.le_refl _⟩, ⟨_, rfl, Blk.le_refl _⟩, ⟨_, rfl, Blk.le_refl _⟩, trivial⟩ ⟨rfl, rfl, rfl, rfl, rfl, rfl, trivial⟩
  have h := of_decide_eq_false h
  have : k = l.length := by omega
  subst this
  have hany : l.any (mis l) = false := any_of_false (d := rep0) hpre
  have h4 : ¬ l.any (mis l) = true := by rw [hany]; simp
  rw [List.take_length]
  refine G.exit ?_
  refine G.seq (G.seqR tfine rfl trivial ?_)
  refine G.cond rfl (fun h5 => ?_) (fun h5 => ?_)
  · refine G.seqR tfine rfl trivial ?_
    refine G.ret (endK.ret rfl ?_)
    rw [tog5, if_neg (fne h1), if_neg (fne h2), if_neg h3, if_neg h4, if_pos h5]; rfl
  refine G.skip ?_
  rw [List.all_eq_true] at hall
  have f0 := okR_facts (hall _ (getD_mem (d := rep0) h0))
  have same : ∀ r ∈ l, r.s = (l.getD 0 rep0).s ∧ okR r = true := fun r hr => by
    have := List.any_eq_false.1 hany r hr
    simp only [mis, Bool.or_eq_true, bne_iff_ne, ne_eq, not_or, Decidable.not_not] at this
    exact ⟨this.1, hall r hr⟩
  have ht := fold_times l (l.getD 0 rep0).s f0.1.1 (vol (l.getD 0 rep0)) same
  have hb := fold_bd l (vol (l.getD 0 rep0)) ⟨f0.2.1, by show (l.getD 0 rep0).vl ≤ _; omega⟩ ⟨by show 0 ≤ (l.getD 0 rep0).vh; omega, f0.2.2.2.1⟩ hall
  have halc : alc (l.getD 0 rep0) = ((vol (l.getD 0 rep0)).1 * (l.getD 0 rep0).s, (vol (l.getD 0 rep0)).2 * (l.getD 0 rep0).s) := by
    unfold alc vol
    rw [f0.2.2.2.2.1, f0.2.2.2.2.2]
  rw [← halc] at ht
  refine G.seqDraw hmix [0, 0, 0, 4, 12, 28, 60, 126, 255, 511, 1023] [(8, 2), (9, 3)] rfl rfl rfl ?_
  refine GD.more tfine 0 rfl rfl ?_ ?_
  · simp [AllP]; omega
  refine GD.call (v := .agg #[I (spileref15_times (l.foldl mV (vol (l.getD 0 rep0))).1 (l.foldl mV (vol (l.getD 0 rep0))).2 (l.getD 0 rep0).s).1, I (spileref15_times (l.foldl mV (vol (l.getD 0 rep0))).1 (l.foldl mV (vol (l.getD 0 rep0))).2 (l.getD 0 rep0).s).2]) 7 rfl rfl rfl rfl rfl (fun args w => Try.call41 args w) (fun m _ ρ w _ _ => spileref15_times_any _ _ _ w) ?_
  refine GD.fin tfine 8 rfl rfl trivial ?_
  refine G.ret (endK.ret rfl ?_)
  rw [tog5, if_neg (fne h1), if_neg (fne h2), if_neg h3, if_neg h4, if_neg (fne h5), ht]
  have m1 : 0 ≤ (l.foldl mV (vol (l.getD 0 rep0))).1 * (l.getD 0 rep0).s := Int.mul_nonneg hb.1.1 f0.1.1
  have m2 : (l.foldl mV (vol (l.getD 0 rep0))).1 * (l.getD 0 rep0).s ≤ 34359738368 * 10000 := Int.mul_le_mul hb.1.2 f0.1.2 f0.1.1 (by decide)
  have m3 : 0 ≤ (l.foldl mV (vol (l.getD 0 rep0))).2 * (l.getD 0 rep0).s := Int.mul_nonneg hb.2.1 f0.1.1
  have m4 : (l.foldl mV (vol (l.getD 0 rep0))).2 * (l.getD 0 rep0).s ≤ 34359738368 * 10000 := Int.mul_le_mul hb.2.2 f0.1.2 f0.1.1 (by decide)
  unfold spileref15_times
  rw [IntWalk.i64_in _ (by omega), IntWalk.i64_in _ (by omega)]
  rfl
theorem apR : ApT Try.prog 47 36 8 64 (.agg #[I 0, I 0, I 0, I 0, I 0, I 0, I 0, I 0]) := ⟨by kernel_rfl, by kernel_rfl, rfl, by decide⟩
theorem cloneR_any (A : Option Addr) (c : Nat) (l : List Rep) (w : World) (hl : RdRow w A l.length 8 (elR l)) (hm : l.length ≤ maxLen) (hy : l.length * 64 ≤ 140737488355328) (hA : A = none → l.length = 0) :
    Calls Try.prog 21 #[.slice A l.length c] w fun e w' => ∃ A' c', e = .returned (.slice A' l.length c') ∧ RdNew w w' A' l.length 8 (elR l) ∧ Below w.heap.size w w' := by
  refine enterRow tfine l.length 8 (elR l) Try.func21 rfl 8 Try.ntmps21 [.c (.inp 1000 A l.length c)] [⟨1000, A, 8, l.length, elR l⟩] rfl rfl ⟨hl, trivial⟩ ⟨.inl ⟨rfl, rfl, rfl⟩, trivial⟩ ?_
  refine G.seqR tfine rfl trivial ?_
  refine G.seq (G.seqR tfine rfl trivial ?_)
  refine G.cond rfl (fun h => ?_) (fun h => ?_)
  · refine G.seqR tfine rfl trivial ?_
    have : A = none := by cases A <;> simp at h ⊢
    refine G.ret (endRow.ret rfl ⟨(hA this).symm, hA this⟩)
  refine G.skip ?_
  refine G.seqC tfine rfl trivial ?_
  refine GO.emptySlice tfine rfl rfl rfl rfl rfl rfl rfl fun A0 => ?_
  refine GO.more tfine rfl trivial ?_
  refine GO.appendNew (elR l) apR rfl rfl rfl rfl rfl rfl rfl rfl (RowOf.ro rfl) (fun k hk => rfl) (fun i hi u hu => by simp [elR] at hu; rcases hu with rfl | rfl | rfl | rfl | rfl | rfl | rfl | rfl <;> rfl) hm hy (fun h0 => ?_) fun h0 c' hc' => ?_
  · refine GO.fin tfine rfl trivial ?_
    exact G.ret (endRow.ret rfl ⟨h0.symm, h0⟩)
  · refine GO.fin tfine rfl trivial ?_
    exact G.ret (endRow.ret rfl ⟨rfl, rfl, rfl, by simp, fun i hi => by simp⟩)
def stepsL : List (Int × Int) := [(0, 0), (10, 100), (20, 250)]
theorem steps_any (w : World) : Calls Try.prog 31 #[] w fun e w' => ∃ A c, e = .returned (.agg (Value.slice A 3 c :: [I 2]).toArray) ∧ RdNew w w' A 3 2 (elM stepsL) ∧ Below w.heap.size w w' := by
  refine enterTab tfine 3 2 (elM stepsL) [I 2] Try.func31 rfl 6 Try.ntmps31 [] [] rfl rfl trivial trivial ?_
  refine G.seqR tfine rfl trivial ?_
  refine G.seqR tfine rfl trivial ?_
  refine G.ret (endTab.ret rfl ⟨rfl, rfl, rfl, [I 0, I 0, I 10, I 100, I 20, I 250], rfl, by decide, fun i hi => ?_⟩)
  rcases (show i = 0 ∨ i = 1 ∨ i = 2 by omega) with rfl | rfl | rfl <;> rfl
end Go.Proofs.Ytiicemgngccicaa
/- Chapter 15: the examples of the chapter hold. -/
set_option linter.unusedVariables false
set_option linter.unusedSimpArgs false
set_option maxRecDepth 8000
set_option maxHeartbeats 1000000
namespace Go.Proofs.Ytiicemgngccicaa
open Go.Sx Go.RowKit
def r0 : Rep := ⟨0, 10, 200, 4000, 100, 102, 400000, 408000⟩
theorem awake_any (w : World) : Calls Try.prog 9 #[] w fun e w' => e = .returned (.bool true) ∧ Below w.heap.size w w' := by
  refine enterPlain tfine Try.func9 rfl 123 Try.ntmps9 [] [] rfl rfl trivial trivial ?_
  refine G.seqR tfine rfl trivial ?_
  refine G.seqC tfine rfl trivial ?_
  refine GO.callTab (n := 3) (sz := 2) (el := elM stepsL) [I 2] rfl rfl rfl rfl rfl rfl rfl (fun args w => Try.call31 args w) (fun ρ w hs hok => steps_any w) fun A c => ?_
  refine GO.callPlain (v := .tuple #[.agg #[I 100, I 252], I 0]) rfl rfl rfl rfl (fun args w => Try.call11 args w) (fun ρ w hs hok => wet_any A c stepsL 2 15 w (hs.row (cap := c) rfl (hok _ List.mem_cons_self _ List.mem_cons_self)) (by decide)) ?_
  refine GO.fin tfine rfl trivial ?_
  refine G.seqC tfine rfl trivial ?_
  refine GO.callTab (n := 3) (sz := 2) (el := elM stepsL) [I 2] rfl rfl rfl rfl rfl rfl rfl (fun args w => Try.call31 args w) (fun ρ w hs hok => steps_any w) fun A2 c2 => ?_
  refine GO.more tfine rfl trivial ?_
  refine GO.callPlain (v := .tuple #[.agg #[I 0, I 10, I 200, I 4000, I 100, I 102, I 400000, I 408000], I 0]) rfl rfl rfl rfl (fun args w => Try.call14 args w) (fun ρ w hs hok => gauge_Report_any A2 c2 stepsL 2 0 10 200 4000 110 w (hs.row (cap := c2) rfl (hok _ List.mem_cons_self _ List.mem_cons_self)) (by decide)) ?_
  refine GO.fin tfine rfl trivial ?_
  refine G.seqC tfine rfl trivial ?_
  refine GO.callPlain (v := .tuple #[.agg #[I 2000, I 10000], I 2, I 0]) rfl rfl rfl rfl (fun args w => Try.call19 args w) (fun ρ w hs hok => gauge_Differ_any 0 10 200 4000 100 102 400000 408000 410000 w) ?_
  refine GO.fin tfine rfl trivial ?_
  refine G.seqC tfine rfl trivial ?_
  refine GO.callPlain (v := .tuple #[.agg #[I 100, I 102], .agg #[I 400000, I 408000], I 0]) rfl rfl rfl rfl (fun args w => Try.call20 args w) (fun ρ w hs _ => together_any _ 2 [r0, r0] w ((hs.rdVar (sz := 8) (vs := r0.cs ++ r0.cs) rfl 0 2 (by decide)).congr fun i hi => ?_) (by decide)) ?_
  · have hi : i < 2 := hi
    rcases (show i = 0 ∨ i = 1 by omega) with rfl | rfl <;> rfl
  refine GO.fin tfine rfl trivial ?_
  refine G.seqC tfine rfl trivial ?_
  refine GO.callPlain (v := .tuple #[.agg #[I 200, I 204], .agg #[I 800000, I 816000], I 0]) rfl rfl rfl rfl (fun args w => Try.call23 args w) (fun ρ w hs _ => total_any _ 2 [r0, r0] w ((hs.rdVar (sz := 8) (vs := r0.cs ++ r0.cs) rfl 0 2 (by decide)).congr fun i hi => ?_) (by decide)) ?_
  · have hi : i < 2 := hi
    rcases (show i = 0 ∨ i = 1 by omega) with rfl | rfl <;> rfl
  refine GO.fin tfine rfl trivial ?_
  refine G.seqC tfine rfl ?_ ?_
  · simp [AllP, condB]
  refine GO.structEqG false [I 100, I 252] [I 100, I 252] true rfl cmp_api_Bounds rfl rfl rfl (by first | exact trivial | exact ⟨id, trivial⟩ | exact ⟨id, id, trivial⟩) rfl rfl rfl (by kernel_rfl) ?_
  refine GO.more tfine rfl ?_ ?_
  · simp [AllP, condB]
  refine GO.structEqG false [I 100, I 102] [I 100, I 102] true rfl cmp_api_Bounds rfl rfl rfl (by first | exact trivial | exact ⟨id, trivial⟩ | exact ⟨id, id, trivial⟩) rfl rfl rfl (by kernel_rfl) ?_
  refine GO.more tfine rfl ?_ ?_
  · simp [AllP, condB]
  refine GO.structEqG false [I 400000, I 408000] [I 400000, I 408000] true rfl cmp_api_Bounds rfl rfl rfl (by first | exact trivial | exact ⟨id, trivial⟩ | exact ⟨id, id, trivial⟩) rfl rfl rfl (by kernel_rfl) ?_
  refine GO.more tfine rfl ?_ ?_
  · simp [AllP, condB]
  refine GO.structEqG false [I 2000, I 10000] [I 2000, I 10000] true rfl cmp_api_Bounds rfl rfl rfl (by first | exact trivial | exact ⟨id, trivial⟩ | exact ⟨id, id, trivial⟩) rfl rfl rfl (by kernel_rfl) ?_
  refine GO.more tfine rfl ?_ ?_
  · simp [AllP, condB]
  refine GO.structEqG false [I 100, I 102] [I 100, I 102] true rfl cmp_api_Bounds rfl rfl rfl (by first | exact trivial | exact ⟨id, trivial⟩ | exact ⟨id, id, trivial⟩) rfl rfl rfl (by kernel_rfl) ?_
  refine GO.more tfine rfl ?_ ?_
  · simp [AllP, condB]
  refine GO.structEqG false [I 400000, I 408000] [I 400000, I 408000] true rfl cmp_api_Bounds rfl rfl rfl (by first | exact trivial | exact ⟨id, trivial⟩ | exact ⟨id, id, trivial⟩) rfl rfl rfl (by kernel_rfl) ?_
  refine GO.more tfine rfl ?_ ?_
  · simp [AllP, condB]
  refine GO.structEqG false [I 200, I 204] [I 200, I 204] true rfl cmp_api_Bounds rfl rfl rfl (by first | exact trivial | exact ⟨id, trivial⟩ | exact ⟨id, id, trivial⟩) rfl rfl rfl (by kernel_rfl) ?_
  refine GO.more tfine rfl ?_ ?_
  · simp [AllP, condB]
  refine GO.structEqG false [I 800000, I 816000] [I 800000, I 816000] true rfl cmp_api_Bounds rfl rfl rfl (by first | exact trivial | exact ⟨id, trivial⟩ | exact ⟨id, id, trivial⟩) rfl rfl rfl (by kernel_rfl) ?_
  refine GO.more tfine rfl ?_ ?_
  · simp [AllP, condB]
  refine GO.callGuard (.bool true) rfl rfl rfl (by first | exact trivial | exact ⟨id, trivial⟩ | exact ⟨id, id, trivial⟩) rfl rfl (fun args w => Try.call18 args w) rfl (fun _ m' hle ρ w hs hok => gauge_Right_any 0 10 200 4000 100 102 400000 408000 w) ?_
  refine GO.more tfine rfl ?_ ?_
  · simp [AllP, condB]
  refine GO.callGuard (I 0) rfl rfl rfl (by first | exact trivial | exact ⟨id, trivial⟩ | exact ⟨id, id, trivial⟩) rfl rfl (fun args w => Try.call16 args w) rfl (fun _ m' hle ρ w hs hok => gauge_Check_any 0 10 200 4000 w) ?_
  refine GO.fin tfine rfl ?_ ?_
  · simp [AllP, condB]
  refine G.ret (endK.ret rfl (vb ?_))
  simp
end Go.Proofs.Ytiicemgngccicaa
/- Chapter 15: the walk of GaugeAnswers. -/
set_option linter.unusedVariables false
set_option linter.unusedSimpArgs false
set_option maxRecDepth 8000
set_option maxHeartbeats 1000000
namespace Go.Proofs.Ytiicemgngccicaa
open Go.Sx Go.RowKit
def spilelaw15_GaugeAnswers (x0_0 : Int) (x0_1 : Int) (x0_2 : Int) (x0_3 : Int) (x0_4 : Int) (x0_5 : Int) (x0_6 : Int) (x0_7 : Int) (x1 : Int) : Bool := if (((gauge_Differ x0_0 x0_1 x0_2 x0_3 x0_4 x0_5 x0_6 x0_7 x1).2.2.2) != (0 : Int)) = true then ((((((gauge_Differ x0_0 x0_1 x0_2 x0_3 x0_4 x0_5 x0_6 x0_7 x1).1) == (0 : Int)) && (((gauge_Differ x0_0 x0_1 x0_2 x0_3 x0_4 x0_5 x0_6 x0_7 x1).2.1) == (0 : Int))) && (((gauge_Differ x0_0 x0_1 x0_2 x0_3 x0_4 x0_5 x0_6 x0_7 x1).2.2.1) == (0 : Int))) && (((!(gauge_Right x0_0 x0_1 x0_2 x0_3 x0_4 x0_5 x0_6 x0_7)) || (decide (x1 < (0 : Int)))) || (decide (x1 > (343597383680000 : Int))))) else if (((!(gauge_Right x0_0 x0_1 x0_2 x0_3 x0_4 x0_5 x0_6 x0_7)) || ((IntKind.i64.wrap (((gauge_Differ x0_0 x0_1 x0_2 x0_3 x0_4 x0_5 x0_6 x0_7 x1).2.1) - ((gauge_Differ x0_0 x0_1 x0_2 x0_3 x0_4 x0_5 x0_6 x0_7 x1).1))) != (IntKind.i64.wrap (x0_7 - x0_6)))) || ((IntKind.i64.wrap (((gauge_Differ x0_0 x0_1 x0_2 x0_3 x0_4 x0_5 x0_6 x0_7 x1).1) + x0_7)) != x1)) = true then (false) else (((((gauge_Differ x0_0 x0_1 x0_2 x0_3 x0_4 x0_5 x0_6 x0_7 x1).2.2.1) == (1 : Int)) == ((decide (x0_6 ≤ x1)) && (decide (x1 ≤ x0_7)))) && ((((gauge_Differ x0_0 x0_1 x0_2 x0_3 x0_4 x0_5 x0_6 x0_7 x1).2.2.1) == (1 : Int)) || (((gauge_Differ x0_0 x0_1 x0_2 x0_3 x0_4 x0_5 x0_6 x0_7 x1).2.2.1) == (2 : Int))))
theorem spilelaw15_GaugeAnswers_any (x0_0 : Int) (x0_1 : Int) (x0_2 : Int) (x0_3 : Int) (x0_4 : Int) (x0_5 : Int) (x0_6 : Int) (x0_7 : Int) (x1 : Int) (w : World) : Calls Try.prog 5 #[.agg #[I x0_0, I x0_1, I x0_2, I x0_3, I x0_4, I x0_5, I x0_6, I x0_7], I x1] w fun e w' => e = .returned (.bool (spilelaw15_GaugeAnswers x0_0 x0_1 x0_2 x0_3 x0_4 x0_5 x0_6 x0_7 x1)) ∧ Below w.heap.size w w' := by
  refine enterPlain tfine Try.func5 rfl 90 Try.ntmps5 [.agg [.k (I x0_0), .k (I x0_1), .k (I x0_2), .k (I x0_3), .k (I x0_4), .k (I x0_5), .k (I x0_6), .k (I x0_7)], .c (.k (I x1))] [] rfl rfl trivial ⟨⟨trivial, trivial, trivial, trivial, trivial, trivial, trivial, trivial, trivial⟩, trivial, trivial⟩ ?_
  refine G.seqR tfine rfl ?_ ?_
  · first | trivial | (simp [AllP, condB]; done) | (simp only [AllP]; and_intros <;> first | trivial | decide | omega) | (simp [AllP, condB]; intros; and_intros <;> first | assumption | omega) | (simp [AllP, condB]; intros; simp_all; done) | (simp [AllP, condB]; intros; simp_all; omega) | (simp [AllP, condB]; omega)
  refine G.seq ?_
  refine G.seqC tfine rfl ?_ ?_
  · first | trivial | (simp [AllP, condB]; done) | (simp only [AllP]; and_intros <;> first | trivial | decide | omega) | (simp [AllP, condB]; intros; and_intros <;> first | assumption | omega) | (simp [AllP, condB]; intros; simp_all; done) | (simp [AllP, condB]; intros; simp_all; omega) | (simp [AllP, condB]; omega)
  refine GO.callPlain (v := .bool true)  rfl rfl rfl rfl (fun args w => Try.call9 args w) (fun ρ w hs hok => awake_any w) ?_
  refine GO.fin tfine rfl ?_ ?_
  · first | trivial | (simp [AllP, condB]; done) | (simp only [AllP]; and_intros <;> first | trivial | decide | omega) | (simp [AllP, condB]; intros; and_intros <;> first | assumption | omega) | (simp [AllP, condB]; intros; simp_all; done) | (simp [AllP, condB]; intros; simp_all; omega) | (simp [AllP, condB]; omega)
  refine G.cond_false rfl ?_
  refine G.skip ?_
  refine G.seqC tfine rfl ?_ ?_
  · first | trivial | (simp [AllP, condB]; done) | (simp only [AllP]; and_intros <;> first | trivial | decide | omega) | (simp [AllP, condB]; intros; and_intros <;> first | assumption | omega) | (simp [AllP, condB]; intros; simp_all; done) | (simp [AllP, condB]; intros; simp_all; omega) | (simp [AllP, condB]; omega)
  refine GO.callPlain (v := .tuple #[.agg #[I ((gauge_Differ x0_0 x0_1 x0_2 x0_3 x0_4 x0_5 x0_6 x0_7 x1).1), I ((gauge_Differ x0_0 x0_1 x0_2 x0_3 x0_4 x0_5 x0_6 x0_7 x1).2.1)], I ((gauge_Differ x0_0 x0_1 x0_2 x0_3 x0_4 x0_5 x0_6 x0_7 x1).2.2.1), I ((gauge_Differ x0_0 x0_1 x0_2 x0_3 x0_4 x0_5 x0_6 x0_7 x1).2.2.2)])  rfl rfl rfl rfl (fun args w => Try.call19 args w) (fun ρ w hs hok => gauge_Differ_any _ _ _ _ _ _ _ _ _ w) ?_
  refine GO.fin tfine rfl ?_ ?_
  · first | trivial | (simp [AllP, condB]; done) | (simp only [AllP]; and_intros <;> first | trivial | decide | omega) | (simp [AllP, condB]; intros; and_intros <;> first | assumption | omega) | (simp [AllP, condB]; intros; simp_all; done) | (simp [AllP, condB]; intros; simp_all; omega) | (simp [AllP, condB]; omega)
  refine G.seq ?_
  refine G.seqR tfine rfl ?_ ?_
  · first | trivial | (simp [AllP, condB]; done) | (simp only [AllP]; and_intros <;> first | trivial | decide | omega) | (simp [AllP, condB]; intros; and_intros <;> first | assumption | omega) | (simp [AllP, condB]; intros; simp_all; done) | (simp [AllP, condB]; intros; simp_all; omega) | (simp [AllP, condB]; omega)
  refine G.cond (b := ((gauge_Differ x0_0 x0_1 x0_2 x0_3 x0_4 x0_5 x0_6 x0_7 x1).2.2.2) != (0 : Int)) rfl (fun h1 => ?_) (fun h1 => ?_)
  · refine G.seqC tfine rfl ?_ ?_
    · first | trivial | (simp [AllP, condB]; done) | (simp only [AllP]; and_intros <;> first | trivial | decide | omega) | (simp [AllP, condB]; intros; and_intros <;> first | assumption | omega) | (simp [AllP, condB]; intros; simp_all; done) | (simp [AllP, condB]; intros; simp_all; omega) | (simp [AllP, condB]; omega)
    refine GO.structEq false [I ((gauge_Differ x0_0 x0_1 x0_2 x0_3 x0_4 x0_5 x0_6 x0_7 x1).1), I ((gauge_Differ x0_0 x0_1 x0_2 x0_3 x0_4 x0_5 x0_6 x0_7 x1).2.1)] [I (0 : Int), I (0 : Int)] (((((gauge_Differ x0_0 x0_1 x0_2 x0_3 x0_4 x0_5 x0_6 x0_7 x1).1) == (0 : Int)) && (((gauge_Differ x0_0 x0_1 x0_2 x0_3 x0_4 x0_5 x0_6 x0_7 x1).2.1) == (0 : Int)))) rfl cmp_api_Bounds rfl rfl rfl rfl rfl (by kernel_rfl) ?_
    refine GO.more tfine rfl ?_ ?_
    · first | trivial | (simp [AllP, condB]; done) | (simp only [AllP]; and_intros <;> first | trivial | decide | omega) | (simp [AllP, condB]; intros; and_intros <;> first | assumption | omega) | (simp [AllP, condB]; intros; simp_all; done) | (simp [AllP, condB]; intros; simp_all; omega) | (simp [AllP, condB]; omega)
    refine GO.callGuard (.bool (gauge_Right x0_0 x0_1 x0_2 x0_3 x0_4 x0_5 x0_6 x0_7)) rfl rfl rfl (by first | exact trivial | exact ⟨id, trivial⟩ | exact ⟨id, id, trivial⟩ | exact ⟨id, id, id, trivial⟩ | exact ⟨id, id, id, id, trivial⟩) rfl rfl (fun args w => Try.call18 args w) rfl (fun _ m' hle ρ w hs hok => gauge_Right_any _ _ _ _ _ _ _ _ w) ?_
    refine GO.fin tfine rfl ?_ ?_
    · first | trivial | (simp [AllP, condB]; done) | (simp only [AllP]; and_intros <;> first | trivial | decide | omega) | (simp [AllP, condB]; intros; and_intros <;> first | assumption | omega) | (simp [AllP, condB]; intros; simp_all; done) | (simp [AllP, condB]; intros; simp_all; omega) | (simp [AllP, condB]; omega)
    refine G.ret (endK.ret rfl ?_)
    first | (rw [spilelaw15_GaugeAnswers, if_pos h1]; done) | (rw [spilelaw15_GaugeAnswers, if_pos h1]; rfl)
  refine G.skip ?_
  refine G.seq ?_
  refine G.seqC tfine rfl ?_ ?_
  · first | trivial | (simp [AllP, condB]; done) | (simp only [AllP]; and_intros <;> first | trivial | decide | omega) | (simp [AllP, condB]; intros; and_intros <;> first | assumption | omega) | (simp [AllP, condB]; intros; simp_all; done) | (simp [AllP, condB]; intros; simp_all; omega) | (simp [AllP, condB]; omega)
  refine GO.callPlain (v := .bool (gauge_Right x0_0 x0_1 x0_2 x0_3 x0_4 x0_5 x0_6 x0_7))  rfl rfl rfl rfl (fun args w => Try.call18 args w) (fun ρ w hs hok => gauge_Right_any _ _ _ _ _ _ _ _ w) ?_
  refine GO.fin tfine rfl ?_ ?_
  · first | trivial | (simp [AllP, condB]; done) | (simp only [AllP]; and_intros <;> first | trivial | decide | omega) | (simp [AllP, condB]; intros; and_intros <;> first | assumption | omega) | (simp [AllP, condB]; intros; simp_all; done) | (simp [AllP, condB]; intros; simp_all; omega) | (simp [AllP, condB]; omega)
  refine G.cond (b := ((!(gauge_Right x0_0 x0_1 x0_2 x0_3 x0_4 x0_5 x0_6 x0_7)) || ((IntKind.i64.wrap (((gauge_Differ x0_0 x0_1 x0_2 x0_3 x0_4 x0_5 x0_6 x0_7 x1).2.1) - ((gauge_Differ x0_0 x0_1 x0_2 x0_3 x0_4 x0_5 x0_6 x0_7 x1).1))) != (IntKind.i64.wrap (x0_7 - x0_6)))) || ((IntKind.i64.wrap (((gauge_Differ x0_0 x0_1 x0_2 x0_3 x0_4 x0_5 x0_6 x0_7 x1).1) + x0_7)) != x1)) rfl (fun h2 => ?_) (fun h2 => ?_)
  · refine G.seqR tfine rfl ?_ ?_
    · first | trivial | (simp [AllP, condB]; done) | (simp only [AllP]; and_intros <;> first | trivial | decide | omega) | (simp [AllP, condB]; intros; and_intros <;> first | assumption | omega) | (simp [AllP, condB]; intros; simp_all; done) | (simp [AllP, condB]; intros; simp_all; omega) | (simp [AllP, condB]; omega)
    refine G.ret (endK.ret rfl ?_)
    first | (rw [spilelaw15_GaugeAnswers, if_neg (fne h1), if_pos h2]; done) | (rw [spilelaw15_GaugeAnswers, if_neg (fne h1), if_pos h2]; rfl)
  refine G.skip ?_
  refine G.seqR tfine rfl ?_ ?_
  · first | trivial | (simp [AllP, condB]; done) | (simp only [AllP]; and_intros <;> first | trivial | decide | omega) | (simp [AllP, condB]; intros; and_intros <;> first | assumption | omega) | (simp [AllP, condB]; intros; simp_all; done) | (simp [AllP, condB]; intros; simp_all; omega) | (simp [AllP, condB]; omega)
  refine G.ret (endK.ret rfl ?_)
  first | (rw [spilelaw15_GaugeAnswers, if_neg (fne h1), if_neg (fne h2)]; done) | (rw [spilelaw15_GaugeAnswers, if_neg (fne h1), if_neg (fne h2)]; rfl)
theorem differ_bad {r : Rep} {x : Int} (h : okR r = false) : gauge_Differ r.d r.p r.h r.s r.vl r.vh r.al r.ah x = (0, 0, 0, 1) := by
  unfold gauge_Differ
  rw [show gauge_Right r.d r.p r.h r.s r.vl r.vh r.al r.ah = okR r from rfl, h]; rfl
theorem differ_ok {r : Rep} {x : Int} (h : okR r = true) : gauge_Differ r.d r.p r.h r.s r.vl r.vh r.al r.ah x = if (decide (x < 0) || decide (x > 343597383680000)) = true then (0, 0, 0, 2) else (x - r.ah, x - r.al, if (decide (r.al ≤ x) && decide (x ≤ r.ah)) = true then 1 else 2, 0) := by
  have hf := okR_facts h
  have m1 : 0 ≤ r.vl * r.s := Int.mul_nonneg hf.2.1 hf.1.1
  have m2 : r.vl * r.s ≤ r.vh * r.s := Int.mul_le_mul_of_nonneg_right hf.2.2.1 hf.1.1
  have m3 : r.vh * r.s ≤ 34359738368 * 10000 := Int.mul_le_mul hf.2.2.2.1 hf.1.2 hf.1.1 (by decide)
  rw [← hf.2.2.2.2.1] at m1 m2
  rw [← hf.2.2.2.2.2] at m2 m3
  unfold gauge_Differ
  rw [show gauge_Right r.d r.p r.h r.s r.vl r.vh r.al r.ah = okR r from rfl, h]
  have e : (!(gauge_in x 0 343597383680000)) = (decide (x < 0) || decide (x > 343597383680000)) := by
    unfold gauge_in
    rw [Bool.eq_iff_iff]
    simp
  rw [e, if_neg (by simp)]
  split
  · rfl
  · rename_i h1
    simp only [Bool.or_eq_true, decide_eq_true_eq, not_or] at h1
    rw [IntWalk.i64_in (x - r.ah) (by omega), IntWalk.i64_in (x - r.al) (by omega)]
    have e2 : gauge_in 0 (x - r.ah) (x - r.al) = (decide (r.al ≤ x) && decide (x ≤ r.ah)) := by
      unfold gauge_in
      rw [Bool.eq_iff_iff]
      simp
      omega
    rw [e2]
    split <;> rfl
theorem answers_true (r : Rep) (x : Int) : spilelaw15_GaugeAnswers r.d r.p r.h r.s r.vl r.vh r.al r.ah x = true := by
  unfold spilelaw15_GaugeAnswers
  rw [show gauge_Right r.d r.p r.h r.s r.vl r.vh r.al r.ah = okR r from rfl]
  cases ho : okR r with
  | false =>
    rw [differ_bad ho]
    rfl
  | true =>
    rw [differ_ok ho]
    have hf := okR_facts ho
    have m1 : 0 ≤ r.vl * r.s := Int.mul_nonneg hf.2.1 hf.1.1
    have m2 : r.vl * r.s ≤ r.vh * r.s := Int.mul_le_mul_of_nonneg_right hf.2.2.1 hf.1.1
    have m3 : r.vh * r.s ≤ 34359738368 * 10000 := Int.mul_le_mul hf.2.2.2.1 hf.1.2 hf.1.1 (by decide)
    rw [← hf.2.2.2.2.1] at m1 m2
    rw [← hf.2.2.2.2.2] at m2 m3
    by_cases h1 : (decide (x < 0) || decide (x > 343597383680000)) = true
    · rw [if_pos h1]
      simp only [Bool.or_eq_true, decide_eq_true_eq] at h1
      simp
      omega
    · rw [if_neg h1]
      simp only [Bool.or_eq_true, decide_eq_true_eq, not_or] at h1
      simp only
      rw [if_neg (by decide), IntWalk.i64_in (x - r.al - (x - r.ah)) (by omega), IntWalk.i64_in (r.ah - r.al) (by omega), IntWalk.i64_in (x - r.ah + r.ah) (by omega), if_neg (by simp; omega)]
      cases (decide (r.al ≤ x) && decide (x ≤ r.ah)) <;> rfl
theorem gaugeAnswers_walk (a0 a1 a2 a3 a4 a5 a6 a7 x : Int) (w : World) : Calls Try.prog 5 #[.agg #[I a0, I a1, I a2, I a3, I a4, I a5, I a6, I a7], I x] w fun e w' => e = .returned (.bool true) ∧ Below w.heap.size w w' := by
  have := spilelaw15_GaugeAnswers_any a0 a1 a2 a3 a4 a5 a6 a7 x w
  rwa [answers_true ⟨a0, a1, a2, a3, a4, a5, a6, a7⟩ x] at this
end Go.Proofs.Ytiicemgngccicaa
/- Chapter 15: the walk of GaugeLists. -/
set_option linter.unusedVariables false
set_option linter.unusedSimpArgs false
set_option maxRecDepth 8000
set_option maxHeartbeats 1000000
namespace Go.Proofs.Ytiicemgngccicaa
open Go.Sx Go.RowKit
theorem refDiffer_eq (r : Rep) (x : Int) : spileref15_Differ r.d r.p r.h r.s r.vl r.vh r.al r.ah x = gauge_Differ r.d r.p r.h r.s r.vl r.vh r.al r.ah x := by
  unfold spileref15_Differ gauge_Differ
  rw [refRight_eq, show gauge_Right r.d r.p r.h r.s r.vl r.vh r.al r.ah = okR r from rfl]
  have e : (!(gauge_in x 0 343597383680000)) = (decide (x < 0) || decide (x > 343597383680000)) := by
    unfold gauge_in
    rw [Bool.eq_iff_iff]
    simp
  have e2 : ∀ a b : Int, gauge_in 0 a b = (decide (a ≤ 0) && decide (b ≥ 0)) := fun a b => rfl
  rw [e, e2]
def spilelaw15_GaugeLists_1 (x0_0 : Int) (x0_1 : Int) (x0_2 : Int) (x0_3 : Int) (x0_4 : Int) (x0_5 : Int) (x0_6 : Int) (x0_7 : Int) (y : Int) : Bool := ((((!((((gauge_Differ x0_0 x0_1 x0_2 x0_3 x0_4 x0_5 x0_6 x0_7 y).1) == ((spileref15_Differ x0_0 x0_1 x0_2 x0_3 x0_4 x0_5 x0_6 x0_7 y).1)) && (((gauge_Differ x0_0 x0_1 x0_2 x0_3 x0_4 x0_5 x0_6 x0_7 y).2.1) == ((spileref15_Differ x0_0 x0_1 x0_2 x0_3 x0_4 x0_5 x0_6 x0_7 y).2.1)))) || (((gauge_Differ x0_0 x0_1 x0_2 x0_3 x0_4 x0_5 x0_6 x0_7 y).2.2.1) != ((spileref15_Differ x0_0 x0_1 x0_2 x0_3 x0_4 x0_5 x0_6 x0_7 y).2.2.1))) || (((gauge_Differ x0_0 x0_1 x0_2 x0_3 x0_4 x0_5 x0_6 x0_7 y).2.2.2) != ((spileref15_Differ x0_0 x0_1 x0_2 x0_3 x0_4 x0_5 x0_6 x0_7 y).2.2.2))) || ((gauge_Right x0_0 x0_1 x0_2 x0_3 x0_4 x0_5 x0_6 x0_7) != (spileref15_Right x0_0 x0_1 x0_2 x0_3 x0_4 x0_5 x0_6 x0_7)))
theorem spilelaw15_GaugeLists_1_any (g : Nat) (x0_0 : Int) (x0_1 : Int) (x0_2 : Int) (x0_3 : Int) (x0_4 : Int) (x0_5 : Int) (x0_6 : Int) (x0_7 : Int) (y : Int) (w : World) (hg : w.heap[g]? = some (.cells #[I y] 3 (0, 0))) : Calls Try.prog 26 #[.agg #[I x0_0, I x0_1, I x0_2, I x0_3, I x0_4, I x0_5, I x0_6, I x0_7], .pointer (some ⟨g, 0, none⟩)] w fun e w' => e = .returned (.bool (spilelaw15_GaugeLists_1 x0_0 x0_1 x0_2 x0_3 x0_4 x0_5 x0_6 x0_7 y)) ∧ Below w.heap.size w w' := by
  refine enterCap tfine (g := g) 3 [.k (I y)] Try.func26 rfl 44 Try.ntmps26 [.agg [.k (I x0_0), .k (I x0_1), .k (I x0_2), .k (I x0_3), .k (I x0_4), .k (I x0_5), .k (I x0_6), .k (I x0_7)], .c (.ptr 1900 0 0 0)] [] trivial hg rfl rfl trivial ⟨trivial, trivial⟩ ⟨⟨trivial, trivial, trivial, trivial, trivial, trivial, trivial, trivial, trivial⟩, rfl, trivial⟩ ?_
  refine G.seqR tfine rfl ?_ ?_
  · first | trivial | (simp [AllP, condB]; done) | (simp only [AllP]; and_intros <;> first | trivial | decide | omega) | (simp [AllP, condB]; intros; and_intros <;> first | assumption | omega) | (simp [AllP, condB]; intros; simp_all; done) | (simp [AllP, condB]; intros; simp_all; omega) | (simp [AllP, condB]; omega)
  refine G.seqC tfine rfl ?_ ?_
  · first | trivial | (simp [AllP, condB]; done) | (simp only [AllP]; and_intros <;> first | trivial | decide | omega) | (simp [AllP, condB]; intros; and_intros <;> first | assumption | omega) | (simp [AllP, condB]; intros; simp_all; done) | (simp [AllP, condB]; intros; simp_all; omega) | (simp [AllP, condB]; omega)
  refine GO.callPlain (v := .tuple #[.agg #[I ((gauge_Differ x0_0 x0_1 x0_2 x0_3 x0_4 x0_5 x0_6 x0_7 y).1), I ((gauge_Differ x0_0 x0_1 x0_2 x0_3 x0_4 x0_5 x0_6 x0_7 y).2.1)], I ((gauge_Differ x0_0 x0_1 x0_2 x0_3 x0_4 x0_5 x0_6 x0_7 y).2.2.1), I ((gauge_Differ x0_0 x0_1 x0_2 x0_3 x0_4 x0_5 x0_6 x0_7 y).2.2.2)])  rfl rfl rfl rfl (fun args w => Try.call19 args w) (fun ρ w hs hok => gauge_Differ_any _ _ _ _ _ _ _ _ _ w) ?_
  refine GO.fin tfine rfl ?_ ?_
  · first | trivial | (simp [AllP, condB]; done) | (simp only [AllP]; and_intros <;> first | trivial | decide | omega) | (simp [AllP, condB]; intros; and_intros <;> first | assumption | omega) | (simp [AllP, condB]; intros; simp_all; done) | (simp [AllP, condB]; intros; simp_all; omega) | (simp [AllP, condB]; omega)
  refine G.seqC tfine rfl ?_ ?_
  · first | trivial | (simp [AllP, condB]; done) | (simp only [AllP]; and_intros <;> first | trivial | decide | omega) | (simp [AllP, condB]; intros; and_intros <;> first | assumption | omega) | (simp [AllP, condB]; intros; simp_all; done) | (simp [AllP, condB]; intros; simp_all; omega) | (simp [AllP, condB]; omega)
  refine GO.callPlain (v := .tuple #[.agg #[I ((spileref15_Differ x0_0 x0_1 x0_2 x0_3 x0_4 x0_5 x0_6 x0_7 y).1), I ((spileref15_Differ x0_0 x0_1 x0_2 x0_3 x0_4 x0_5 x0_6 x0_7 y).2.1)], I ((spileref15_Differ x0_0 x0_1 x0_2 x0_3 x0_4 x0_5 x0_6 x0_7 y).2.2.1), I ((spileref15_Differ x0_0 x0_1 x0_2 x0_3 x0_4 x0_5 x0_6 x0_7 y).2.2.2)])  rfl rfl rfl rfl (fun args w => Try.call27 args w) (fun ρ w hs hok => spileref15_Differ_any _ _ _ _ _ _ _ _ _ w) ?_
  refine GO.fin tfine rfl ?_ ?_
  · first | trivial | (simp [AllP, condB]; done) | (simp only [AllP]; and_intros <;> first | trivial | decide | omega) | (simp [AllP, condB]; intros; and_intros <;> first | assumption | omega) | (simp [AllP, condB]; intros; simp_all; done) | (simp [AllP, condB]; intros; simp_all; omega) | (simp [AllP, condB]; omega)
  refine G.seqDraw hmix [0, 0, 3, 7, 15, 15, 63, 127, 255, 511, 511, 2047, 4095, 8191, 16383, 32767, 16383, 131071, 262143, 524287, 1048575] [] rfl rfl rfl ?_
  refine GD.more tfine 0 rfl rfl ?_ ?_
  · first | trivial | (simp [AllP, condB]; done) | (simp only [AllP]; and_intros <;> first | trivial | decide | omega) | (simp [AllP, condB]; intros; and_intros <;> first | assumption | omega) | (simp [AllP, condB]; intros; simp_all; done) | (simp [AllP, condB]; intros; simp_all; omega) | (simp [AllP, condB]; omega)
  refine GD.structEq true [I ((gauge_Differ x0_0 x0_1 x0_2 x0_3 x0_4 x0_5 x0_6 x0_7 y).1), I ((gauge_Differ x0_0 x0_1 x0_2 x0_3 x0_4 x0_5 x0_6 x0_7 y).2.1)] [I ((spileref15_Differ x0_0 x0_1 x0_2 x0_3 x0_4 x0_5 x0_6 x0_7 y).1), I ((spileref15_Differ x0_0 x0_1 x0_2 x0_3 x0_4 x0_5 x0_6 x0_7 y).2.1)] (!((((gauge_Differ x0_0 x0_1 x0_2 x0_3 x0_4 x0_5 x0_6 x0_7 y).1) == ((spileref15_Differ x0_0 x0_1 x0_2 x0_3 x0_4 x0_5 x0_6 x0_7 y).1)) && (((gauge_Differ x0_0 x0_1 x0_2 x0_3 x0_4 x0_5 x0_6 x0_7 y).2.1) == ((spileref15_Differ x0_0 x0_1 x0_2 x0_3 x0_4 x0_5 x0_6 x0_7 y).2.1)))) rfl cmp_api_Bounds 2 rfl rfl rfl rfl rfl rfl (by kernel_rfl) ?_
  refine GD.more tfine 3 rfl rfl ?_ ?_
  · first | trivial | (simp [AllP, condB]; done) | (simp only [AllP]; and_intros <;> first | trivial | decide | omega) | (simp [AllP, condB]; intros; and_intros <;> first | assumption | omega) | (simp [AllP, condB]; intros; simp_all; done) | (simp [AllP, condB]; intros; simp_all; omega) | (simp [AllP, condB]; omega)
  refine GD.callGuard (.bool (gauge_Right x0_0 x0_1 x0_2 x0_3 x0_4 x0_5 x0_6 x0_7)) 15 rfl rfl rfl rfl (by first | exact trivial | exact ⟨id, trivial⟩ | exact ⟨id, id, trivial⟩ | exact ⟨id, id, id, trivial⟩ | exact ⟨id, id, id, id, trivial⟩) rfl rfl (fun args w => Try.call18 args w) rfl (fun _ m hle ρ w hs hok => gauge_Right_any _ _ _ _ _ _ _ _ w) ?_
  refine GD.more tfine 16 rfl rfl ?_ ?_
  · first | trivial | (simp [AllP, condB]; done) | (simp only [AllP]; and_intros <;> first | trivial | decide | omega) | (simp [AllP, condB]; intros; and_intros <;> first | assumption | omega) | (simp [AllP, condB]; intros; simp_all; done) | (simp [AllP, condB]; intros; simp_all; omega) | (simp [AllP, condB]; omega)
  refine GD.callGuard (.bool (spileref15_Right x0_0 x0_1 x0_2 x0_3 x0_4 x0_5 x0_6 x0_7)) 17 rfl rfl rfl rfl (by first | exact trivial | exact ⟨id, trivial⟩ | exact ⟨id, id, trivial⟩ | exact ⟨id, id, id, trivial⟩ | exact ⟨id, id, id, id, trivial⟩) rfl rfl (fun args w => Try.call28 args w) rfl (fun _ m hle ρ w hs hok => spileref15_Right_any _ _ _ _ _ _ _ _ w) ?_
  refine GD.fin tfine 18 rfl rfl ?_ ?_
  · first | trivial | (simp [AllP, condB]; done) | (simp only [AllP]; and_intros <;> first | trivial | decide | omega) | (simp [AllP, condB]; intros; and_intros <;> first | assumption | omega) | (simp [AllP, condB]; intros; simp_all; done) | (simp [AllP, condB]; intros; simp_all; omega) | (simp [AllP, condB]; omega)
  refine G.ret (endCap.ret rfl ?_ rfl)
  first | (rw [spilelaw15_GaugeLists_1]; done) | (rw [spilelaw15_GaugeLists_1]; rfl)
theorem lists1_false (r : Rep) (y : Int) : spilelaw15_GaugeLists_1 r.d r.p r.h r.s r.vl r.vh r.al r.ah y = false := by
  unfold spilelaw15_GaugeLists_1
  rw [refDiffer_eq, refRight_eq, show gauge_Right r.d r.p r.h r.s r.vl r.vh r.al r.ah = okR r from rfl]
  simp
theorem lists1_any (g : Nat) (y : Int) (r : Rep) (w : World) (hg : w.heap[g]? = some (.cells #[I y] 3 (0, 0))) : Calls Try.prog 26 #[Rep.v r, .pointer (some ⟨g, 0, none⟩)] w fun e w' => e = .returned (.bool ((fun _ : Rep => false) r)) ∧ Below w.heap.size w w' := by
  have := spilelaw15_GaugeLists_1_any g r.d r.p r.h r.s r.vl r.vh r.al r.ah y w hg
  rw [lists1_false] at this
  exact this
theorem gaugeLists_walk (A : Option Addr) (c : Nat) (l : List Rep) (x : Int) (w : World) (hl : RdRow w A l.length 8 (elR l)) (hm : l.length ≤ maxLen) (hA : A = none → l.length = 0) :
    Calls Try.prog 6 #[.slice A l.length c, I x] w fun e w' => e = .returned (.bool true) ∧ Below w.heap.size w w' := by
  refine enterPlain tfine Try.func6 rfl 80 Try.ntmps6 [.c (.inp 1000 A l.length c), .c (.k (I x))] [⟨1000, A, 8, l.length, elR l⟩] rfl rfl ⟨hl, trivial⟩ ⟨.inl ⟨rfl, rfl, rfl⟩, trivial, trivial⟩ ?_
  refine G.seqR tfine rfl trivial ?_
  refine G.seq (G.seqC tfine rfl trivial ?_)
  refine GO.callPlain rfl rfl rfl rfl (fun args w => Try.call9 args w) (fun ρ w hm _ => awake_any w) ?_
  refine GO.fin tfine rfl trivial ?_
  refine G.cond_false rfl (G.skip ?_)
  refine G.seq (G.seqR tfine rfl trivial ?_)
  refine G.cond rfl (fun h => ?_) (fun h => ?_)
  · refine G.seqR tfine rfl trivial ?_
    exact G.ret (endK.ret rfl rfl)
  have h := of_decide_eq_false h
  have hm' : l.length ≤ 4611686018427387904 := by omega
  refine G.skip ?_
  refine G.seqC tfine rfl trivial ?_
  refine GO.callRow (n := l.length) (sz := 8) (el := elR l) rfl rfl rfl rfl rfl rfl rfl (fun args w => Try.call21 args w) (fun ρ w hs hok => cloneR_any A c l w (hs.row (cap := c) rfl (hok _ List.mem_cons_self)) hm (by omega) hA) fun A1 c1 => ?_
  refine GO.callPlain (v := B5 (tog5 l)) rfl rfl rfl rfl (fun args w => Try.call20 args w) (fun ρ w hs hok => together_any A1 c1 l w (hs.row (cap := c1) rfl (hok _ List.mem_cons_self)) hm') ?_
  refine GO.fin tfine rfl trivial ?_
  refine G.seqC tfine rfl trivial ?_
  refine GO.callPlain (v := B5 (tog5 l)) rfl rfl rfl rfl (fun args w => Try.call22 args w) (fun ρ w hs hok => refTogether_any A c l w (hs.row (cap := c) rfl (hok _ List.mem_cons_self)) hm') ?_
  refine GO.fin tfine rfl trivial ?_
  refine G.seqC tfine rfl trivial ?_
  refine GO.callRow (n := l.length) (sz := 8) (el := elR l) rfl rfl rfl rfl rfl rfl rfl (fun args w => Try.call21 args w) (fun ρ w hs hok => cloneR_any A c l w (hs.row (cap := c) rfl (hok _ List.mem_cons_self)) hm (by omega) hA) fun A2 c2 => ?_
  refine GO.callPlain (v := B5 (tot5 l)) rfl rfl rfl rfl (fun args w => Try.call23 args w) (fun ρ w hs hok => total_any A2 c2 l w (hs.row (cap := c2) rfl (hok _ List.mem_cons_self)) hm') ?_
  refine GO.fin tfine rfl trivial ?_
  refine G.seqC tfine rfl trivial ?_
  refine GO.callPlain (v := B5 (tot5 l)) rfl rfl rfl rfl (fun args w => Try.call24 args w) (fun ρ w hs hok => refTotal_any A c l w (hs.row (cap := c) rfl (hok _ List.mem_cons_self)) hm') ?_
  refine GO.fin tfine rfl trivial ?_
  refine G.seq (G.seqC tfine rfl trivial ?_)
  refine GO.structEq true [I (tog5 l).1, I (tog5 l).2.1] [I (tog5 l).1, I (tog5 l).2.1] false (by simp [eqR, eqL, eqV, I]) cmp_api_Bounds rfl rfl rfl rfl rfl (by kernel_rfl) ?_
  refine GO.more tfine rfl ?_ ?_
  · first | trivial | (simp [AllP, condB]; done) | (simp [AllP, condB]; intros; simp_all; done)
  refine GO.structEqG true [I (tog5 l).2.2.1, I (tog5 l).2.2.2.1] [I (tog5 l).2.2.1, I (tog5 l).2.2.2.1] false (by simp [eqR, eqL, eqV, I]) cmp_api_Bounds rfl rfl rfl (by first | exact trivial | exact ⟨id, trivial⟩ | exact ⟨id, id, trivial⟩) rfl rfl rfl (by kernel_rfl) ?_
  refine GO.more tfine rfl ?_ ?_
  · first | trivial | (simp [AllP, condB]; done) | (simp [AllP, condB]; intros; simp_all; done)
  refine GO.structEqG true [I (tot5 l).1, I (tot5 l).2.1] [I (tot5 l).1, I (tot5 l).2.1] false (by simp [eqR, eqL, eqV, I]) cmp_api_Bounds rfl rfl rfl (by first | exact trivial | exact ⟨id, trivial⟩ | exact ⟨id, id, trivial⟩) rfl rfl rfl (by kernel_rfl) ?_
  refine GO.more tfine rfl ?_ ?_
  · first | trivial | (simp [AllP, condB]; done) | (simp [AllP, condB]; intros; simp_all; done)
  refine GO.structEqG true [I (tot5 l).2.2.1, I (tot5 l).2.2.2.1] [I (tot5 l).2.2.1, I (tot5 l).2.2.2.1] false (by simp [eqR, eqL, eqV, I]) cmp_api_Bounds rfl rfl rfl (by first | exact trivial | exact ⟨id, trivial⟩ | exact ⟨id, id, trivial⟩) rfl rfl rfl (by kernel_rfl) ?_
  refine GO.fin tfine rfl ?_ ?_
  · first | trivial | (simp [AllP, condB]; done) | (simp [AllP, condB]; intros; simp_all; done)
  refine G.cond rfl (fun h2 => ?_) (fun h2 => ?_)
  · simp at h2
  refine G.skip ?_
  refine G.seqC tfine rfl trivial ?_
  refine GO.callPlain (v := .bool false) rfl rfl rfl rfl (fun args w => Try.call25 args w) (fun ρ w1 hs hok => ?_) ?_
  · have hk := hs.ok 3 _ rfl
    have hg : w1.heap[(ρ 3).1]? = some (.cells #[I x] 3 (0, 0)) := hk.2.2.1
    have hrow : RdRow w1 A l.length 8 (elR l) := hs.row (cap := c) rfl (hok _ List.mem_cons_self)
    have := containsFuncR_any 26 (fun _ => false) (.pointer (some ⟨(ρ 3).1, 0, none⟩)) (fun args w => Try.call26 args w) A c l w1
      (fun w2 hb v hv => lists1_any (ρ 3).1 x v w2 ((hb.block _ (Array.getElem?_eq_some_iff.1 hg).1).trans hg)) hrow hm'
    rw [firstI_any, any_getDg (fun _ : Rep => false) l rep0, show l.any (fun _ => false) = false by simp] at this
    show Calls Try.prog 25 #[.slice A l.length c, .func (.func 26) #[] #[.pointer (some ⟨(ρ 3).1, (ρ 3).2 + 0, none⟩)]] w1 _
    rw [hk.1]
    exact this
  refine GO.fin tfine rfl trivial ?_
  exact G.ret (endK.ret rfl rfl)
end Go.Proofs.Ytiicemgngccicaa
/- Chapter 15: rows of reports copied and turned round. -/
set_option linter.unusedVariables false
set_option linter.unusedSimpArgs false
set_option maxRecDepth 8000
set_option maxHeartbeats 1000000
namespace Go.Proofs.Ytiicemgngccicaa
open Go.Sx Go.RowKit
def elF (f : Nat → Rep) (i : Nat) : List Value := [I (f i).d, I (f i).p, I (f i).h, I (f i).s, I (f i).vl, I (f i).vh, I (f i).al, I (f i).ah]
theorem elF_eq (l : List Rep) : elR l = elF fun i => l.getD i rep0 := rfl
theorem cloneOwnR_any (A : Option Addr) (c : Nat) (l : List Rep) (w : World) (hl : RdRow w A l.length 8 (elR l)) (hm : l.length ≤ maxLen) (hy : l.length * 64 ≤ 140737488355328) (hA : A = none → l.length = 0) :
    Calls Try.prog 21 #[.slice A l.length c] w fun e w' => ∃ v, e = .returned v ∧ RdOwn w w' v 36 l.length 8 (elR l) ∧ Below w.heap.size w w' := by
  refine enterOwn tfine 36 l.length 8 (elR l) Try.func21 rfl 8 Try.ntmps21 [.c (.inp 1000 A l.length c)] [⟨1000, A, 8, l.length, elR l⟩] rfl rfl ⟨hl, trivial⟩ ⟨.inl ⟨rfl, rfl, rfl⟩, trivial⟩ ?_
  refine G.seqR tfine rfl trivial ?_
  refine G.seq (G.seqR tfine rfl trivial ?_)
  refine G.cond rfl (fun h => ?_) (fun h => ?_)
  · refine G.seqR tfine rfl trivial ?_
    have : A = none := by cases A <;> simp at h ⊢
    refine G.ret (endOwn.ret rfl ⟨rfl, hA this⟩)
  refine G.skip ?_
  refine G.seqC tfine rfl trivial ?_
  refine GO.emptySlice tfine rfl rfl rfl rfl rfl rfl rfl fun A0 => ?_
  refine GO.more tfine rfl trivial ?_
  refine GO.appendNew (elR l) apR rfl rfl rfl rfl rfl rfl rfl rfl (RowOf.ro rfl) (fun k hk => rfl) (fun i hi u hu => by simp [elR] at hu; rcases hu with rfl | rfl | rfl | rfl | rfl | rfl | rfl | rfl <;> rfl) hm hy (fun h0 => ?_) fun h0 c' hc' => ?_
  · refine GO.fin tfine rfl trivial ?_
    exact G.ret (endOwn.ret rfl ⟨rfl, h0⟩)
  · refine GO.fin tfine rfl trivial ?_
    exact G.ret (endOwn.ret rfl ⟨rfl, rfl, rfl, rfl, rfl, Nat.le_refl _, fun i hi => rfl⟩)
def rvR (l : List Rep) (k i : Nat) : Rep := if i < k ∨ l.length ≤ i + k then l.getD (l.length - 1 - i) rep0 else l.getD i rep0
theorem rev_getDR (l : List Rep) (i : Nat) (h : i < l.length) : l.reverse.getD i rep0 = l.getD (l.length - 1 - i) rep0 := by
  rw [List.getD_eq_getElem?_getD, List.getD_eq_getElem?_getD, List.getElem?_reverse h]
theorem reverseR_any (b c : Nat) (l : List Rep) (w : World) (ho : OwnAt w b 36 l.length 8 (elR l) 0) (hm : l.length ≤ 4611686018427387904) :
    Calls Try.prog 30 #[.slice (some ⟨b, 0, none⟩) l.length c] w fun e w' => e = .returned (.tuple #[]) ∧ Fr w [b] w' ∧ OwnAt w' b 36 l.length 8 (elR l.reverse) 0 := by
  refine enterTurn tfine 36 l.length 8 (elR l) (elR l.reverse) 0 Try.func30 rfl 28 Try.ntmps30 [.c (.slc 1000 0 8 l.length c)] ho rfl rfl ⟨rfl, trivial⟩ ?_
  refine G.seqR tfine rfl trivial ?_
  rw [IntWalk.i64_in _ (by omega)]
  refine G.block (G.loop (fun k : Nat => St.of [(0, .v (.c (.slc 1000 0 8 l.length c))), (2, .v (.c (.k (I k)))), (3, .v (.c (.k (I ((l.length : Int) - 1 - k)))))] [(1000, .arr 36 8 l.length (elF (rvR l k)) 0)])
    (fun k => k ≤ l.length) (fun k => l.length - k) 0 (by omega) (St.le_of rfl ⟨⟨_, rfl, rfl, rfl, Nat.le_refl _, fun i hi => ?_, Nat.le_refl _⟩, trivial⟩ ⟨rfl, rfl, ?_, trivial⟩) ?_)
  · have : rvR l 0 i = l.getD i rep0 := by unfold rvR; rw [if_neg (by omega)]
    show elF (rvR l 0) i = elR l i
    unfold elF
    rw [this]; rfl
  · simp [argsT, up, I]
  intro k hk
  refine G.seq (G.seqR tfine rfl trivial ?_)
  refine G.cond rfl (fun h => ?_) (fun h => ?_)
  rotate_left
  · have h := of_decide_eq_false h
    refine G.exit (endTurn.norm rfl rfl rfl fun i hi => ?_)
    have : rvR l k i = l.reverse.getD i rep0 := by
      rw [rev_getDR l i hi]
      unfold rvR
      split
      · rfl
      · congr 1; omega
    show elF (rvR l k) i = elR l.reverse i
    unfold elF
    rw [this]; rfl
  have h := of_decide_eq_true h
  have hlt : k + k + 1 < l.length := by omega
  refine G.skip ?_
  refine G.seq (G.block ?_)
  refine G.regD tfine hmix [0, 0, 0, 0, 0, 0, 48, 112, 0, 0, 768, 1792, 4083, 8179, 16383, 32767] [(13, 1000), (15, 1000)] rfl rfl rfl rfl ?_ ?_
  · simp [AllP]; omega
  refine G.reg tfine rfl trivial ?_
  have e1 : 0 + (k : Int).toNat = k := by omega
  have e2 : 0 + ((l.length : Int) - 1 - k).toNat = l.length - 1 - k := by omega
  rw [IntWalk.i64_in ((k : Int) + 1) (by omega), IntWalk.i64_in ((l.length : Int) - 1 - k - 1) (by omega), e1, e2]
  refine ⟨k + 1, (by show k + 1 ≤ l.length; omega), (by show l.length - (k + 1) < l.length - k; omega), St.le_of rfl ⟨⟨_, rfl, rfl, rfl, Nat.le_refl _, fun i hi => ?_, Nat.le_refl _⟩, trivial⟩ ⟨rfl, rfl, ?_, trivial⟩⟩
  · cases b1 : Nat.beq i (l.length - 1 - k) with
    | true =>
      have := Nat.eq_of_beq_eq_true b1
      subst this
      simp only [cond_true]
      have : rvR l (k + 1) (l.length - 1 - k) = rvR l k k := by
        unfold rvR
        rw [if_pos (by omega), if_neg (by omega), show l.length - 1 - (l.length - 1 - k) = k by omega]
      show elF (rvR l (k + 1)) (l.length - 1 - k) = _
      unfold elF
      rw [this]
      simp only [b1, cond_true]
    | false =>
      have n1 : i ≠ l.length - 1 - k := fun e => by rw [e] at b1; simp at b1
      cases b2 : Nat.beq i k with
      | true =>
        have := Nat.eq_of_beq_eq_true b2
        subst this
        simp only [cond_true, cond_false]
        have : rvR l (i + 1) i = rvR l i (l.length - 1 - i) := by
          unfold rvR
          rw [if_pos (by omega), if_neg (by omega)]
        show elF (rvR l (i + 1)) i = _
        unfold elF
        rw [this]
        simp only [b1, b2, cond_true, cond_false]
      | false =>
        have n2 : i ≠ k := fun e => by rw [e] at b2; simp at b2
        simp only [cond_false]
        have : rvR l (k + 1) i = rvR l k i := by
          unfold rvR
          by_cases h3 : i < k ∨ l.length ≤ i + k
          · rw [if_pos h3, if_pos (by omega)]
          · rw [if_neg h3, if_neg (by omega)]
        show elF (rvR l (k + 1)) i = _
        unfold elF
        rw [this]
        simp only [b1, b2, cond_true, cond_false]
  · have : (l.length : Int) - 1 - k - 1 = (l.length : Int) - 1 - ((k + 1 : Nat) : Int) := by omega
    rw [this]; rfl
theorem reverse0R_any (A : Option Addr) (c : Nat) (w : World) :
    Calls Try.prog 30 #[.slice A 0 c] w fun e w' => e = .returned (.tuple #[]) ∧ Below w.heap.size w w' := by
  refine enterPlain tfine Try.func30 rfl 28 Try.ntmps30 [.c (.inp 1000 A 0 c)] [⟨1000, A, 8, 0, elR []⟩] rfl rfl ⟨fun h => absurd h (Nat.lt_irrefl 0), trivial⟩ ⟨.inl ⟨rfl, rfl, rfl⟩, trivial⟩ ?_
  refine G.seqR tfine rfl trivial ?_
  refine G.block (G.loop (fun _ : Unit => St.of [(2, .v (.c (.k (I 0)))), (3, .v (.c (.k (I (-1)))))] []) (fun _ => True) (fun _ => 0) () trivial (St.le_of rfl trivial ⟨rfl, rfl, trivial⟩) ?_)
  intro _ _
  refine G.seq (G.seqR tfine rfl trivial ?_)
  refine G.cond_false rfl ?_
  exact G.exit (endK.norm rfl rfl)
end Go.Proofs.Ytiicemgngccicaa
/- Chapter 15: the walk of GaugeTogether. -/
set_option linter.unusedVariables false
set_option linter.unusedSimpArgs false
set_option maxRecDepth 8000
set_option maxHeartbeats 1000000
namespace Go.Proofs.Ytiicemgngccicaa
open Go.Sx Go.RowKit
theorem fold_char (fld : Rep → Int × Int) (l : List Rep) : ∀ v : Int × Int, (v.1 ≤ (l.foldl (fun b r => meet b (fld r)) v).1 ∧ (∀ r ∈ l, (fld r).1 ≤ (l.foldl (fun b r => meet b (fld r)) v).1) ∧ ((l.foldl (fun b r => meet b (fld r)) v).1 = v.1 ∨ ∃ r ∈ l, (fld r).1 = (l.foldl (fun b r => meet b (fld r)) v).1)) ∧
    ((l.foldl (fun b r => meet b (fld r)) v).2 ≤ v.2 ∧ (∀ r ∈ l, (l.foldl (fun b r => meet b (fld r)) v).2 ≤ (fld r).2) ∧ ((l.foldl (fun b r => meet b (fld r)) v).2 = v.2 ∨ ∃ r ∈ l, (fld r).2 = (l.foldl (fun b r => meet b (fld r)) v).2)) := by
  induction l with
  | nil => intro v; simp
  | cons a l ih =>
    intro v
    obtain ⟨⟨a1, a2, a3⟩, b1, b2, b3⟩ := ih (meet v (fld a))
    rw [List.foldl_cons]
    have m := meet_eq v (fld a)
    have m1 : v.1 ≤ (meet v (fld a)).1 ∧ (fld a).1 ≤ (meet v (fld a)).1 ∧ ((meet v (fld a)).1 = v.1 ∨ (meet v (fld a)).1 = (fld a).1) := by rw [m]; simp only; split <;> omega
    have m2 : (meet v (fld a)).2 ≤ v.2 ∧ (meet v (fld a)).2 ≤ (fld a).2 ∧ ((meet v (fld a)).2 = v.2 ∨ (meet v (fld a)).2 = (fld a).2) := by rw [m]; simp only; split <;> omega
    refine ⟨⟨by omega, fun r hr => ?_, ?_⟩, by omega, fun r hr => ?_, ?_⟩
    · rcases List.mem_cons.1 hr with rfl | hr
      · omega
      · exact a2 r hr
    · rcases a3 with h | ⟨r, hr, h⟩
      · rcases m1.2.2 with h5 | h5
        · left; omega
        · right; exact ⟨a, by simp, by omega⟩
      · right; exact ⟨r, by simp [hr], h⟩
    · rcases List.mem_cons.1 hr with rfl | hr
      · omega
      · exact b2 r hr
    · rcases b3 with h | ⟨r, hr, h⟩
      · rcases m2.2.2 with h5 | h5
        · left; omega
        · right; exact ⟨a, by simp, by omega⟩
      · right; exact ⟨r, by simp [hr], h⟩
theorem fold_max (fld : Rep → Int × Int) {l : List Rep} (h0 : 0 < l.length) : ((∀ r ∈ l, (fld r).1 ≤ (l.foldl (fun b r => meet b (fld r)) (fld (l.getD 0 rep0))).1) ∧ ∃ r ∈ l, (fld r).1 = (l.foldl (fun b r => meet b (fld r)) (fld (l.getD 0 rep0))).1) ∧
    ((∀ r ∈ l, (l.foldl (fun b r => meet b (fld r)) (fld (l.getD 0 rep0))).2 ≤ (fld r).2) ∧ ∃ r ∈ l, (fld r).2 = (l.foldl (fun b r => meet b (fld r)) (fld (l.getD 0 rep0))).2) := by
  obtain ⟨⟨a1, a2, a3⟩, b1, b2, b3⟩ := fold_char fld l (fld (l.getD 0 rep0))
  refine ⟨⟨a2, ?_⟩, b2, ?_⟩
  · rcases a3 with h | h
    · exact ⟨_, getD_mem h0, h.symm⟩
    · exact h
  · rcases b3 with h | h
    · exact ⟨_, getD_mem h0, h.symm⟩
    · exact h
theorem fold_rev (fld : Rep → Int × Int) {l : List Rep} (h0 : 0 < l.length) : l.reverse.foldl (fun b r => meet b (fld r)) (fld (l.reverse.getD 0 rep0)) = l.foldl (fun b r => meet b (fld r)) (fld (l.getD 0 rep0)) := by
  have h0' : 0 < l.reverse.length := by simpa using h0
  obtain ⟨⟨a1, r1, a2, a3⟩, b1, r2, b2, b3⟩ := fold_max fld h0
  obtain ⟨⟨c1, s1, c2, c3⟩, d1, s2, d2, d3⟩ := fold_max fld h0'
  have e1 := a1 s1 (by simpa using c2)
  have e2 := c1 r1 (by simpa using a2)
  have e3 := b1 s2 (by simpa using d2)
  have e4 := d1 r2 (by simpa using b2)
  exact Prod.ext (by omega) (by omega)
theorem mis_iff {l : List Rep} (h0 : 0 < l.length) : l.any (mis l) = false ↔ ∃ S D, ∀ r ∈ l, r.s = S ∧ r.d = D := by
  rw [List.any_eq_false]
  constructor
  · intro h
    refine ⟨(l.getD 0 rep0).s, (l.getD 0 rep0).d, fun r hr => ?_⟩
    have := h r hr
    simp only [mis, Bool.or_eq_true, bne_iff_ne, ne_eq, not_or, Decidable.not_not] at this
    exact this
  · rintro ⟨S, D, h⟩ r hr
    have a := h r hr
    have b := h _ (getD_mem (d := rep0) h0)
    simp only [mis, Bool.or_eq_true, bne_iff_ne, ne_eq, not_or, Decidable.not_not]
    exact ⟨a.1.trans b.1.symm, a.2.trans b.2.symm⟩
theorem tog5_rev (l : List Rep) : tog5 l.reverse = tog5 l := by
  by_cases h0 : 0 < l.length
  · have e1 : l.reverse.any (mis l.reverse) = l.any (mis l) := by
      have h0' : 0 < l.reverse.length := by simpa using h0
      cases h : l.any (mis l) with
      | false =>
        rw [mis_iff h0] at h
        rw [mis_iff h0']
        obtain ⟨S, D, h⟩ := h
        exact ⟨S, D, fun r hr => h r (by simpa using hr)⟩
      | true =>
        cases h2 : l.reverse.any (mis l.reverse) with
        | true => rfl
        | false =>
          rw [mis_iff h0'] at h2
          obtain ⟨S, D, h2⟩ := h2
          have := (mis_iff h0).2 ⟨S, D, fun r hr => h2 r (by simpa using hr)⟩
          rw [this] at h; cases h
    have e2 : l.reverse.foldl mV (vol (l.reverse.getD 0 rep0)) = l.foldl mV (vol (l.getD 0 rep0)) := fold_rev vol h0
    have e3 : l.reverse.foldl mA (alc (l.reverse.getD 0 rep0)) = l.foldl mA (alc (l.getD 0 rep0)) := fold_rev alc h0
    unfold tog5
    rw [List.length_reverse, List.all_reverse, e1, e2, e3]
  · have : l = [] := List.length_eq_zero_iff.1 (by omega)
    subst this
    rfl
theorem tog5_err {l : List Rep} (h : (tog5 l).2.2.2.2 ≠ 0) : (tog5 l).1 = 0 ∧ (tog5 l).2.1 = 0 ∧ (tog5 l).2.2.1 = 0 ∧ (tog5 l).2.2.2.1 = 0 := by
  unfold tog5 at *
  split
  · exact ⟨rfl, rfl, rfl, rfl⟩
  · rename_i h1
    rw [if_neg h1] at h
    split
    · exact ⟨rfl, rfl, rfl, rfl⟩
    · rename_i h2
      rw [if_neg h2] at h
      split
      · exact ⟨rfl, rfl, rfl, rfl⟩
      · rename_i h3
        rw [if_neg h3] at h
        split
        · exact ⟨rfl, rfl, rfl, rfl⟩
        · rename_i h4
          rw [if_neg h4] at h
          split
          · exact ⟨rfl, rfl, rfl, rfl⟩
          · rename_i h5
            rw [if_neg h5] at h
            exact absurd rfl h
theorem tog5_ok {l : List Rep} (h : (tog5 l).2.2.2.2 = 0) : 0 < l.length ∧ (tog5 l).1 = (l.foldl mV (vol (l.getD 0 rep0))).1 ∧ (tog5 l).2.1 = (l.foldl mV (vol (l.getD 0 rep0))).2 ∧ (tog5 l).2.2.1 = (l.foldl mA (alc (l.getD 0 rep0))).1 ∧ (tog5 l).2.2.2.1 = (l.foldl mA (alc (l.getD 0 rep0))).2 ∧ (tog5 l).1 ≤ (tog5 l).2.1 := by
  unfold tog5 at *
  split at h
  · cases h
  rename_i h1
  split at h
  · cases h
  rename_i h2
  split at h
  · cases h
  rename_i h3
  split at h
  · cases h
  rename_i h4
  split at h
  · cases h
  rename_i h5
  rw [if_neg h1, if_neg h2, if_neg h3, if_neg h4, if_neg h5]
  have : l.length ≠ 0 := by simpa using h1
  exact ⟨by omega, rfl, rfl, rfl, rfl, by simpa using h5⟩
theorem take_any {α : Type} (q : α → Bool) (l : List α) (k : Nat) (d : α) (h : k < l.length) : (l.take (k + 1)).any q = ((l.take k).any q || q (l.getD k d)) := by
  rw [List.take_succ_eq_append_getElem h, List.any_append, List.getD_eq_getElem?_getD, List.getElem?_eq_getElem h]
  simp
theorem gaugeTogether_walkN (A : Option Addr) (c : Nat) (l : List Rep) (w : World) (hl : RdRow w A l.length 8 (elR l)) (hm : l.length ≤ maxLen) (hA : A = none → l.length = 0) (hn : 0 < l.length) :
    Calls Try.prog 8 #[.slice A l.length c] w fun e w' => e = .returned (.bool true) ∧ Below w.heap.size w w' := by
  refine enterPlain tfine Try.func8 rfl 125 Try.ntmps8 [.c (.inp 1000 A l.length c)] [⟨1000, A, 8, l.length, elR l⟩] rfl rfl ⟨hl, trivial⟩ ⟨.inl ⟨rfl, rfl, rfl⟩, trivial⟩ ?_
  refine G.seqR tfine rfl trivial ?_
  refine G.seq (G.seqC tfine rfl trivial ?_)
  refine GO.callPlain rfl rfl rfl rfl (fun args w => Try.call9 args w) (fun ρ w hm _ => awake_any w) ?_
  refine GO.fin tfine rfl trivial ?_
  refine G.cond_false rfl (G.skip ?_)
  refine G.seq (G.seqR tfine rfl trivial ?_)
  refine G.cond rfl (fun h => ?_) (fun h => ?_)
  · refine G.seqR tfine rfl trivial ?_
    exact G.ret (endK.ret rfl rfl)
  have h := of_decide_eq_false h
  have hm' : l.length ≤ 4611686018427387904 := by omega
  refine G.skip ?_
  refine G.seqC tfine rfl trivial ?_
  refine GO.callRow (n := l.length) (sz := 8) (el := elR l) rfl rfl rfl rfl rfl rfl rfl (fun args w => Try.call21 args w) (fun ρ w hs hok => cloneR_any A c l w (hs.row (cap := c) rfl (hok _ List.mem_cons_self)) hm (by omega) hA) fun A1 c1 => ?_
  refine GO.callPlain (v := B5 (tog5 l)) rfl rfl rfl rfl (fun args w => Try.call20 args w) (fun ρ w hs hok => together_any A1 c1 l w (hs.row (cap := c1) rfl (hok _ List.mem_cons_self)) hm') ?_
  refine GO.fin tfine rfl trivial ?_
  refine G.seqC tfine rfl trivial ?_
  refine GO.callOwn (ty := 36) (n := l.length) (sz := 8) (el := elR l) rfl rfl rfl rfl rfl rfl rfl (fun args w => Try.call21 args w) (fun ρ w hs hok => cloneOwnR_any A c l w (hs.row (cap := c) rfl (hok _ List.mem_cons_self)) hm (by omega) hA) (fun h0 A2 c2 => ?_) (fun h0 c2 => ?_)
  · omega
  refine GO.fin tfine rfl trivial ?_
  refine G.seqC tfine rfl trivial ?_
  refine GO.callTurnArr (v := .tuple #[]) (x := 27) (elR l.reverse) rfl rfl rfl rfl (fun args w => Try.call30 args w) rfl (fun ρ w hs hok ho h2 => ?_) ?_
  · have := reverseR_any (ρ 27).1 c2 l w ho hm'
    simpa [AV.conc, AC.conc, h2] using this
  refine GO.fin tfine rfl trivial ?_
  refine G.seqC tfine rfl trivial ?_
  refine GO.callPlain (v := B5 (tog5 l)) rfl rfl rfl rfl (fun args w => Try.call20 args w) (fun ρ w hs hok => ?_) ?_
  · have hrd : RdRow w (some ⟨(ρ 27).1, (ρ 27).2 + 0 * 8, none⟩) l.length 8 (elR l.reverse) := (hs.rdArr (x := 27) rfl 0 l.length (by omega)).congr fun i hi => by rw [Nat.zero_add]
    have := together_any (some ⟨(ρ 27).1, (ρ 27).2 + 0 * 8, none⟩) c2 l.reverse w (by rw [List.length_reverse]; exact hrd) (by rw [List.length_reverse]; omega)
    rw [tog5_rev, List.length_reverse] at this
    exact this
  refine GO.fin tfine rfl trivial ?_
  refine G.seq (G.seqC tfine rfl trivial ?_)
  refine GO.structEq true [I (tog5 l).1, I (tog5 l).2.1] [I (tog5 l).1, I (tog5 l).2.1] false (by simp [eqR, eqL, eqV, I]) cmp_api_Bounds rfl rfl rfl rfl rfl (by kernel_rfl) ?_
  refine GO.more tfine rfl ?_ ?_
  · first | trivial | (simp [AllP, condB]; done) | (simp [AllP, condB]; intros; simp_all; done)
  refine GO.structEqG true [I (tog5 l).2.2.1, I (tog5 l).2.2.2.1] [I (tog5 l).2.2.1, I (tog5 l).2.2.2.1] false (by simp [eqR, eqL, eqV, I]) cmp_api_Bounds rfl rfl rfl (by first | exact trivial | exact ⟨id, trivial⟩ | exact ⟨id, id, trivial⟩) rfl rfl rfl (by kernel_rfl) ?_
  refine GO.fin tfine rfl ?_ ?_
  · first | trivial | (simp [AllP, condB]; done) | (simp [AllP, condB]; intros; simp_all; done)
  refine G.cond rfl (fun h2 => ?_) (fun h2 => ?_)
  · simp at h2
  refine G.skip ?_
  refine G.seq (G.seqR tfine rfl trivial ?_)
  refine G.cond rfl (fun h3 => ?_) (fun h3 => ?_)
  · have he := tog5_err (l := l) (by simpa using h3)
    refine G.seqC tfine rfl trivial ?_
    refine GO.structEq false [I (tog5 l).1, I (tog5 l).2.1] [I 0, I 0] true (by simp [eqR, eqL, eqV, I, he]) cmp_api_Bounds rfl rfl rfl rfl rfl (by kernel_rfl) ?_
    refine GO.more tfine rfl ?_ ?_
    · first | trivial | (simp [AllP, condB]; done) | (simp [AllP, condB]; intros; simp_all; done)
    refine GO.structEqG false [I (tog5 l).2.2.1, I (tog5 l).2.2.2.1] [I 0, I 0] true (by simp [eqR, eqL, eqV, I, he]) cmp_api_Bounds rfl rfl rfl (by first | exact trivial | exact ⟨id, trivial⟩ | exact ⟨id, id, trivial⟩) rfl rfl rfl (by kernel_rfl) ?_
    refine GO.fin tfine rfl ?_ ?_
    · first | trivial | (simp [AllP, condB]; done) | (simp [AllP, condB]; intros; simp_all; done)
    exact G.ret (endK.ret rfl rfl)
  refine G.skip ?_
  obtain ⟨h0, t1, t2, t3, t4, t5⟩ := tog5_ok (l := l) (by simpa using h3)
  obtain ⟨⟨a1, ra, a2, a3⟩, b1, rb, b2, b3⟩ := fold_max vol h0
  obtain ⟨⟨c1, _⟩, d1, _⟩ := fold_max alc h0
  obtain ⟨V, hV⟩ : ∃ V, V = tog5 l := ⟨_, rfl⟩
  rw [← hV] at t1 t2 t3 t4 t5 ⊢
  refine G.seqR tfine rfl trivial ?_
  refine G.seq (G.seqR tfine rfl trivial ?_)
  refine G.block (G.loop (fun k : Nat => St.of [(3, .v (.c (.ptr 3 0 0 0))), (4, .v (.c (.ptr 4 0 0 0))), (10, .v (.c (.k (.bool ((l.take k).any fun r => V.1 == r.vl))))), (11, .v (.c (.k (.bool ((l.take k).any fun r => V.2.1 == r.vh))))), (59, .v (.c (.inp 1000 A l.length c))), (60, .v (.c (.k (I l.length)))), (61, .v (.c (.k (I k))))]
      [(3, .var 30 [.k (I V.1), .k (I V.2.1)]), (4, .var 30 [.k (I V.2.2.1), .k (I V.2.2.2.1)]), (1000, .ro 8 l.length (elR l))])
    (fun k => k ≤ l.length) (fun k => l.length - k) 0 (by omega) (St.le_of rfl ⟨⟨_, rfl, Blk.le_refl _⟩, ⟨_, rfl, Blk.le_refl _⟩, ⟨_, rfl, Blk.le_refl _⟩, trivial⟩ ⟨rfl, rfl, rfl, rfl, rfl, rfl, rfl, trivial⟩) ?_)
  intro k hk
  refine G.seqR tfine rfl trivial ?_
  refine G.seq (G.cond rfl (fun h7 => ?_) (fun h7 => ?_))
  rotate_left
  · have h7 := of_decide_eq_false h7
    have : k = l.length := by omega
    subst this
    refine G.exit ?_
    rw [List.take_length]
    refine G.seqR tfine rfl ?_ ?_
    · first | trivial | (simp [AllP, condB]; done) | (simp [AllP, condB]; intros; simp_all; done)
    refine G.ret (endK.ret rfl (vb ?_))
    have y1 : (l.any fun r => V.1 == r.vl) = true := List.any_eq_true.2 ⟨ra, a2, by rw [t1]; exact beq_iff_eq.2 a3.symm⟩
    have y2 : (l.any fun r => V.2.1 == r.vh) = true := List.any_eq_true.2 ⟨rb, b2, by rw [t2]; exact beq_iff_eq.2 b3.symm⟩
    rw [y1, y2, decide_eq_true t5]
    rfl
  have h7 := of_decide_eq_true h7
  have hlt : k < l.length := by omega
  have hr := getD_mem (d := rep0) hlt
  have f1 : (l.getD k rep0).vl ≤ V.1 := by rw [t1]; exact a1 _ hr
  have f2 : V.2.1 ≤ (l.getD k rep0).vh := by rw [t2]; exact b1 _ hr
  have f3 : (l.getD k rep0).al ≤ V.2.2.1 := by rw [t3]; exact c1 _ hr
  have f4 : V.2.2.2.1 ≤ (l.getD k rep0).ah := by rw [t4]; exact d1 _ hr
  refine G.skip ?_
  refine G.seq (G.block ?_)
  refine G.seqR tfine rfl ?_ ?_
  · simp [AllP]; omega
  rw [Int.toNat_natCast]
  refine G.seq (G.seqR tfine rfl ?_ ?_)
  · first | trivial | (simp [AllP, condB]; done) | (simp [AllP, condB]; intros; simp_all; done)
  refine G.cond rfl (fun h8 => ?_) (fun h8 => ?_)
  · exfalso
    simp only [Bool.or_eq_true, decide_eq_true_eq] at h8
    omega
  refine G.skip ?_
  refine G.regD tfine hmix [0, 1, 3, 7, 3, 19, 51, 127, 255, 0, 515, 1539, 3587, 1539, 9731, 26115, 65027, 130563, 2047, 524287] [] rfl rfl rfl rfl ?_ ?_
  · first | trivial | (simp [AllP, condB]; done) | (simp [AllP, condB]; intros; simp_all; done)
  refine G.reg tfine rfl trivial ?_
  rw [IntWalk.i64_in ((k : Int) + 1) (by omega)]
  refine ⟨k + 1, hlt, (by show l.length - (k + 1) < l.length - k; omega), ?_⟩
  simp only [take_any _ l k rep0 hlt]
  exact St.le_of rfl ⟨⟨_, rfl, Blk.le_refl _⟩, ⟨_, rfl, Blk.le_refl _⟩, ⟨_, rfl, Blk.le_refl _⟩, trivial⟩ ⟨rfl, rfl, rfl, rfl, rfl, rfl, rfl, trivial⟩
theorem gaugeTogether_walk0 (A : Option Addr) (c : Nat) (l : List Rep) (w : World) (hl : RdRow w A l.length 8 (elR l)) (hm : l.length ≤ maxLen) (hA : A = none → l.length = 0) (hn : ¬ 0 < l.length) :
    Calls Try.prog 8 #[.slice A l.length c] w fun e w' => e = .returned (.bool true) ∧ Below w.heap.size w w' := by
  refine enterPlain tfine Try.func8 rfl 125 Try.ntmps8 [.c (.inp 1000 A l.length c)] [⟨1000, A, 8, l.length, elR l⟩] rfl rfl ⟨hl, trivial⟩ ⟨.inl ⟨rfl, rfl, rfl⟩, trivial⟩ ?_
  refine G.seqR tfine rfl trivial ?_
  refine G.seq (G.seqC tfine rfl trivial ?_)
  refine GO.callPlain rfl rfl rfl rfl (fun args w => Try.call9 args w) (fun ρ w hm _ => awake_any w) ?_
  refine GO.fin tfine rfl trivial ?_
  refine G.cond_false rfl (G.skip ?_)
  refine G.seq (G.seqR tfine rfl trivial ?_)
  refine G.cond rfl (fun h => ?_) (fun h => ?_)
  · refine G.seqR tfine rfl trivial ?_
    exact G.ret (endK.ret rfl rfl)
  have h := of_decide_eq_false h
  have hm' : l.length ≤ 4611686018427387904 := by omega
  refine G.skip ?_
  refine G.seqC tfine rfl trivial ?_
  refine GO.callRow (n := l.length) (sz := 8) (el := elR l) rfl rfl rfl rfl rfl rfl rfl (fun args w => Try.call21 args w) (fun ρ w hs hok => cloneR_any A c l w (hs.row (cap := c) rfl (hok _ List.mem_cons_self)) hm (by omega) hA) fun A1 c1 => ?_
  refine GO.callPlain (v := B5 (tog5 l)) rfl rfl rfl rfl (fun args w => Try.call20 args w) (fun ρ w hs hok => together_any A1 c1 l w (hs.row (cap := c1) rfl (hok _ List.mem_cons_self)) hm') ?_
  refine GO.fin tfine rfl trivial ?_
  refine G.seqC tfine rfl trivial ?_
  refine GO.callOwn (ty := 36) (n := l.length) (sz := 8) (el := elR l) rfl rfl rfl rfl rfl rfl rfl (fun args w => Try.call21 args w) (fun ρ w hs hok => cloneOwnR_any A c l w (hs.row (cap := c) rfl (hok _ List.mem_cons_self)) hm (by omega) hA) (fun h0 A2 c2 => ?_) (fun h0 c2 => ?_)
  rotate_left
  · omega
  refine GO.fin tfine rfl trivial ?_
  refine G.seqC tfine rfl trivial ?_
  refine GO.callPlain (v := .tuple #[]) rfl rfl rfl rfl (fun args w => Try.call30 args w) (fun ρ w hs hok => reverse0R_any A2 c2 w) ?_
  refine GO.fin tfine rfl trivial ?_
  refine G.seqC tfine rfl trivial ?_
  refine GO.callPlain (v := B5 (tog5 l)) rfl rfl rfl rfl (fun args w => Try.call20 args w) (fun ρ w hs hok => ?_) ?_
  · have := together_any A2 c2 [] w (fun h => absurd h (Nat.lt_irrefl 0)) (by decide)
    have e : l = [] := List.length_eq_zero_iff.1 h0
    subst e
    exact this
  refine GO.fin tfine rfl trivial ?_
  refine G.seq (G.seqC tfine rfl trivial ?_)
  refine GO.structEq true [I (tog5 l).1, I (tog5 l).2.1] [I (tog5 l).1, I (tog5 l).2.1] false (by simp [eqR, eqL, eqV, I]) cmp_api_Bounds rfl rfl rfl rfl rfl (by kernel_rfl) ?_
  refine GO.more tfine rfl ?_ ?_
  · first | trivial | (simp [AllP, condB]; done) | (simp [AllP, condB]; intros; simp_all; done)
  refine GO.structEqG true [I (tog5 l).2.2.1, I (tog5 l).2.2.2.1] [I (tog5 l).2.2.1, I (tog5 l).2.2.2.1] false (by simp [eqR, eqL, eqV, I]) cmp_api_Bounds rfl rfl rfl (by first | exact trivial | exact ⟨id, trivial⟩ | exact ⟨id, id, trivial⟩) rfl rfl rfl (by kernel_rfl) ?_
  refine GO.fin tfine rfl ?_ ?_
  · first | trivial | (simp [AllP, condB]; done) | (simp [AllP, condB]; intros; simp_all; done)
  refine G.cond rfl (fun h2 => ?_) (fun h2 => ?_)
  · simp at h2
  refine G.skip ?_
  refine G.seq (G.seqR tfine rfl trivial ?_)
  refine G.cond rfl (fun h3 => ?_) (fun h3 => ?_)
  · have he := tog5_err (l := l) (by simpa using h3)
    refine G.seqC tfine rfl trivial ?_
    refine GO.structEq false [I (tog5 l).1, I (tog5 l).2.1] [I 0, I 0] true (by simp [eqR, eqL, eqV, I, he]) cmp_api_Bounds rfl rfl rfl rfl rfl (by kernel_rfl) ?_
    refine GO.more tfine rfl ?_ ?_
    · first | trivial | (simp [AllP, condB]; done) | (simp [AllP, condB]; intros; simp_all; done)
    refine GO.structEqG false [I (tog5 l).2.2.1, I (tog5 l).2.2.2.1] [I 0, I 0] true (by simp [eqR, eqL, eqV, I, he]) cmp_api_Bounds rfl rfl rfl (by first | exact trivial | exact ⟨id, trivial⟩ | exact ⟨id, id, trivial⟩) rfl rfl rfl (by kernel_rfl) ?_
    refine GO.fin tfine rfl ?_ ?_
    · first | trivial | (simp [AllP, condB]; done) | (simp [AllP, condB]; intros; simp_all; done)
    exact G.ret (endK.ret rfl rfl)
  refine G.skip ?_
  obtain ⟨h0, t1, t2, t3, t4, t5⟩ := tog5_ok (l := l) (by simpa using h3)
  obtain ⟨⟨a1, ra, a2, a3⟩, b1, rb, b2, b3⟩ := fold_max vol h0
  obtain ⟨⟨c1, _⟩, d1, _⟩ := fold_max alc h0
  obtain ⟨V, hV⟩ : ∃ V, V = tog5 l := ⟨_, rfl⟩
  rw [← hV] at t1 t2 t3 t4 t5 ⊢
  refine G.seqR tfine rfl trivial ?_
  refine G.seq (G.seqR tfine rfl trivial ?_)
  refine G.block (G.loop (fun k : Nat => St.of [(3, .v (.c (.ptr 3 0 0 0))), (4, .v (.c (.ptr 4 0 0 0))), (10, .v (.c (.k (.bool ((l.take k).any fun r => V.1 == r.vl))))), (11, .v (.c (.k (.bool ((l.take k).any fun r => V.2.1 == r.vh))))), (59, .v (.c (.inp 1000 A l.length c))), (60, .v (.c (.k (I l.length)))), (61, .v (.c (.k (I k))))]
      [(3, .var 30 [.k (I V.1), .k (I V.2.1)]), (4, .var 30 [.k (I V.2.2.1), .k (I V.2.2.2.1)]), (1000, .ro 8 l.length (elR l))])
    (fun k => k ≤ l.length) (fun k => l.length - k) 0 (by omega) (St.le_of rfl ⟨⟨_, rfl, Blk.le_refl _⟩, ⟨_, rfl, Blk.le_refl _⟩, ⟨_, rfl, Blk.le_refl _⟩, trivial⟩ ⟨rfl, rfl, rfl, rfl, rfl, rfl, rfl, trivial⟩) ?_)
  intro k hk
  refine G.seqR tfine rfl trivial ?_
  refine G.seq (G.cond rfl (fun h7 => ?_) (fun h7 => ?_))
  rotate_left
  · have h7 := of_decide_eq_false h7
    have : k = l.length := by omega
    subst this
    refine G.exit ?_
    rw [List.take_length]
    refine G.seqR tfine rfl ?_ ?_
    · first | trivial | (simp [AllP, condB]; done) | (simp [AllP, condB]; intros; simp_all; done)
    refine G.ret (endK.ret rfl (vb ?_))
    have y1 : (l.any fun r => V.1 == r.vl) = true := List.any_eq_true.2 ⟨ra, a2, by rw [t1]; exact beq_iff_eq.2 a3.symm⟩
    have y2 : (l.any fun r => V.2.1 == r.vh) = true := List.any_eq_true.2 ⟨rb, b2, by rw [t2]; exact beq_iff_eq.2 b3.symm⟩
    rw [y1, y2, decide_eq_true t5]
    rfl
  have h7 := of_decide_eq_true h7
  have hlt : k < l.length := by omega
  have hr := getD_mem (d := rep0) hlt
  have f1 : (l.getD k rep0).vl ≤ V.1 := by rw [t1]; exact a1 _ hr
  have f2 : V.2.1 ≤ (l.getD k rep0).vh := by rw [t2]; exact b1 _ hr
  have f3 : (l.getD k rep0).al ≤ V.2.2.1 := by rw [t3]; exact c1 _ hr
  have f4 : V.2.2.2.1 ≤ (l.getD k rep0).ah := by rw [t4]; exact d1 _ hr
  refine G.skip ?_
  refine G.seq (G.block ?_)
  refine G.seqR tfine rfl ?_ ?_
  · simp [AllP]; omega
  rw [Int.toNat_natCast]
  refine G.seq (G.seqR tfine rfl ?_ ?_)
  · first | trivial | (simp [AllP, condB]; done) | (simp [AllP, condB]; intros; simp_all; done)
  refine G.cond rfl (fun h8 => ?_) (fun h8 => ?_)
  · exfalso
    simp only [Bool.or_eq_true, decide_eq_true_eq] at h8
    omega
  refine G.skip ?_
  refine G.regD tfine hmix [0, 1, 3, 7, 3, 19, 51, 127, 255, 0, 515, 1539, 3587, 1539, 9731, 26115, 65027, 130563, 2047, 524287] [] rfl rfl rfl rfl ?_ ?_
  · first | trivial | (simp [AllP, condB]; done) | (simp [AllP, condB]; intros; simp_all; done)
  refine G.reg tfine rfl trivial ?_
  rw [IntWalk.i64_in ((k : Int) + 1) (by omega)]
  refine ⟨k + 1, hlt, (by show l.length - (k + 1) < l.length - k; omega), ?_⟩
  simp only [take_any _ l k rep0 hlt]
  exact St.le_of rfl ⟨⟨_, rfl, Blk.le_refl _⟩, ⟨_, rfl, Blk.le_refl _⟩, ⟨_, rfl, Blk.le_refl _⟩, trivial⟩ ⟨rfl, rfl, rfl, rfl, rfl, rfl, rfl, trivial⟩
theorem gaugeTogether_walk (A : Option Addr) (c : Nat) (l : List Rep) (w : World) (hl : RdRow w A l.length 8 (elR l)) (hm : l.length ≤ maxLen) (hA : A = none → l.length = 0) :
    Calls Try.prog 8 #[.slice A l.length c] w fun e w' => e = .returned (.bool true) ∧ Below w.heap.size w w' := by
  by_cases h : 0 < l.length
  · exact gaugeTogether_walkN A c l w hl hm hA h
  · exact gaugeTogether_walk0 A c l w hl hm hA h
end Go.Proofs.Ytiicemgngccicaa
/- Openers of arguments for the rows: arrays of two and of three whole numbers. -/
set_option linter.unusedVariables false
set_option linter.unusedSimpArgs false
namespace Go.Sx
open Go.ChangeShapes Go.WideShapes Go.WideMaps
section
variable {H : Type} {enc : TypeId × Value → H} {P : Program} {k e : TypeId} {q : IntKind} {W : World} {base : Nat} {sp : Nat → Bool} {held : Bool}
theorem open_arr2 (A : ArrKey P k e 2) (he : P.underlying e = some (.int q)) {r : Reach} {b0 : Nat} {v : Value} {d : DataW H} {ps : List MemPlace} (hval : Value.okWide P W r b0 k v) (hd : DataW.Trod enc P W base sp held k v d ps) :
    ∃ a b : Int, v = .agg #[.int q a, .int q b] ∧ d = .agg [.lit (.int q a), .lit (.int q b)] ∧ ps = [] ∧ (Lit.int q a).wf = true ∧ (Lit.int q b).wf = true := open_pair A he hval hd
theorem shut_arr2 (A : ArrKey P k e 2) (he : P.underlying e = some (.int q)) {a b : Int} (wa : (Lit.int q a).wf = true) (wb : (Lit.int q b).wf = true) :
    DataW.Trod enc P W base sp held k (.agg #[.int q a, .int q b]) (.agg [.lit (.int q a), .lit (.int q b)]) [] := shut_pair A he wa wb
theorem okWide_three (A : ArrKey P k e 3) {r : Reach} {b0 : Nat} {v : Value} (h : Value.okWide P W r b0 k v) : ∃ c0 c1 c2, v = .agg #[c0, c1, c2] := by
  simp only [Value.okWide, A.hu] at h
  obtain ⟨cs, h1, h2, _⟩ := h
  rw [A.size] at h2
  obtain ⟨l⟩ := cs
  match l, h2 with
  | [c0, c1, c2], _ => exact ⟨c0, c1, c2, h1⟩
theorem open_arr3 (A : ArrKey P k e 3) (he : P.underlying e = some (.int q)) {r : Reach} {b0 : Nat} {v : Value} {d : DataW H} {ps : List MemPlace} (hval : Value.okWide P W r b0 k v) (hd : DataW.Trod enc P W base sp held k v d ps) :
    ∃ a b c : Int, v = .agg #[.int q a, .int q b, .int q c] ∧ d = .agg [.lit (.int q a), .lit (.int q b), .lit (.int q c)] ∧ ps = [] ∧ (Lit.int q a).wf = true ∧ (Lit.int q b).wf = true ∧ (Lit.int q c).wf = true := by
  obtain ⟨c0, c1, c2, rfl⟩ := okWide_three A hval
  obtain ⟨fuel, hf⟩ := hd
  cases fuel with
  | zero => simp [DataW.trod] at hf
  | succ n =>
    rw [DataW.trod_step] at hf
    unfold DataW.trodStep at hf
    simp only [A.hu, Value.cells] at hf
    rw [if_pos (by rw [A.size]; rfl)] at hf
    simp only [Option.map_eq_some_iff] at hf
    obtain ⟨xs, hx, e1⟩ := hf
    rw [show List.range 3 = [0, 1, 2] from rfl, List.mapM_cons, List.mapM_cons, List.mapM_cons, List.mapM_nil] at hx
    simp only [bind, Option.bind_eq_some_iff, pure, Option.some.injEq, A.one] at hx
    obtain ⟨y0, h0, _, ⟨y1, h1, _, ⟨y2, h2, _, rfl, rfl⟩, rfl⟩, rfl⟩ := hx
    obtain ⟨a, ea, rfl, wa⟩ := DataW.trod_int he h0
    obtain ⟨b, eb, rfl, wb⟩ := DataW.trod_int he h1
    obtain ⟨c, ec, rfl, wc⟩ := DataW.trod_int he h2
    simp at ea eb ec
    subst ea; subst eb; subst ec
    simp only [Prod.mk.injEq] at e1
    exact ⟨a, b, c, rfl, by rw [← e1.1]; rfl, by rw [← e1.2]; rfl, wa, wb, wc⟩
theorem shut_arr3 (A : ArrKey P k e 3) (he : P.underlying e = some (.int q)) {a b c : Int} (wa : (Lit.int q a).wf = true) (wb : (Lit.int q b).wf = true) (wc : (Lit.int q c).wf = true) :
    DataW.Trod enc P W base sp held k (.agg #[.int q a, .int q b, .int q c]) (.agg [.lit (.int q a), .lit (.int q b), .lit (.int q c)]) [] :=
  ⟨2, by
    show DataW.trod enc P W base sp held (1 + 1) k [.int q a, .int q b, .int q c] = _
    rw [DataW.trod_step]
    unfold DataW.trodStep
    simp only [A.hu]
    rw [if_pos (by rw [A.size]; rfl), show List.range 3 = [0, 1, 2] from rfl, List.mapM_cons, List.mapM_cons, List.mapM_cons, List.mapM_nil]
    simp [A.one, DataW.trod, he, wa, wb, wc]⟩
end
open Go.RowKit
/-- What the seat's rows tell of a slice of whole numbers, as the executor takes it. -/
theorem rowI {k : IntKind} {w : World} {a : Option Addr} {len cap : Nat} {zs : List Int} (h : (a = none ∧ len = 0 ∧ cap = 0 ∧ zs = []) ∨ ∃ x, a = some x ∧ len ≤ cap ∧ cap ≤ maxLen ∧ zs.length = cap ∧ (∀ i, i < zs.length → w.cell? (x.add i) = some (.int k (zs.getD i 0))) ∧ ∀ n ∈ zs, (Lit.int k n).wf = true) :
    ∃ l : List Int, len = l.length ∧ RdRow w a l.length 1 (fun i => [.int k (l.getD i 0)]) ∧ l.length ≤ maxLen ∧ (∀ n ∈ l, (Lit.int k n).wf = true) ∧ (a = none → l.length = 0) := by
  rcases h with ⟨rfl, rfl, rfl, rfl⟩ | ⟨x, rfl, h1, h2, h3, h4, h5⟩
  · exact ⟨[], rfl, RdRow.nil _ _ _ _, by simp, by simp, fun _ => rfl⟩
  · have hl : (zs.take len).length = len := by simp; omega
    refine ⟨zs.take len, hl.symm, ?_, by omega, fun n hn => h5 n (List.mem_of_mem_take hn), fun h => by cases h⟩
    intro h0
    have hspot : x.spot = none := by
      have := h4 0 (by omega)
      rw [show x.add 0 = x from rfl] at this
      unfold World.cell? at this
      split at this
      · split at this
        · cases this
        · rename_i hn
          cases hs : x.spot with
          | none => rfl
          | some _ => rw [hs] at hn; exact absurd rfl hn
      · cases this
    obtain ⟨b, o, sp⟩ := x
    simp only at hspot
    subst hspot
    refine ⟨b, o, rfl, ?_, fun i hi => ⟨rfl, fun j hj => ?_⟩⟩
    · have := h4 0 (by omega)
      rw [show (⟨b, o, none⟩ : Addr).add 0 = ⟨b, o, none⟩ from rfl] at this
      unfold World.cell? at this
      split at this
      · rename_i hh
        exact (Array.getElem?_eq_some_iff.1 hh).1
      · cases this
    · have hj : j = 0 := by omega
      subst hj
      have := h4 i (by omega)
      rw [Addr.add_lit] at this
      rw [show o + (i * 1 + 0) = o + i by omega, this]
      have hi' : i < len := by omega
      simp [List.getD_eq_getElem?_getD, hi']
end Go.Sx
/- Part U: what the arguments of a row hold, cell by cell. Generic over P. -/
set_option linter.unusedVariables false
set_option linter.unusedSimpArgs false
namespace Go.Sx
open Go.ChangeShapes Go.WideShapes Go.RowKit
inductive Leaf where
  | int (k : IntKind) | bool | str | row (size : Nat) (ls : List Leaf)
def LeafAll (p : Leaf → Value → Prop) : List Leaf → List Value → Prop
  | [], [] => True
  | l :: ls, c :: cs => p l c ∧ LeafAll p ls cs
  | _, _ => False
def Leaf.says (w : World) : Nat → Leaf → Value → Prop
  | 0, _, _ => True
  | _ + 1, .int k, c => ∃ z, c = .int k z ∧ (Lit.int k z).wf = true
  | _ + 1, .bool, c => ∃ b, c = .bool b
  | _ + 1, .str, c => ∃ s : ByteArray, c = .string s ∧ s.size ≤ maxLen
  | d + 1, .row size ls, c => ∃ a len cap, c = .slice a len cap ∧ (a = none → len = 0) ∧ len ≤ maxLen ∧ ∃ ess : List (List Value), ess.length = len ∧ RdRow w a len size (fun i => ess.getD i []) ∧ ∀ es ∈ ess, LeafAll (Leaf.says w d) ls es
theorem LeafAll.nil {p : Leaf → Value → Prop} {cs : List Value} (h : LeafAll p [] cs) : cs = [] := by
  cases cs with
  | nil => rfl
  | cons _ _ => exact h.elim
theorem LeafAll.cons {p : Leaf → Value → Prop} {l : Leaf} {ls : List Leaf} {cs : List Value} (h : LeafAll p (l :: ls) cs) : ∃ c r, cs = c :: r ∧ p l c ∧ LeafAll p ls r := by
  cases cs with
  | nil => exact h.elim
  | cons c r => exact ⟨c, r, rfl, h.1, h.2⟩
theorem LeafAll.append {p : Leaf → Value → Prop} {l1 l2 : List Leaf} {c1 c2 : List Value} (h1 : LeafAll p l1 c1) (h2 : LeafAll p l2 c2) : LeafAll p (l1 ++ l2) (c1 ++ c2) := by
  induction l1 generalizing c1 with
  | nil => rw [h1.nil]; exact h2
  | cons l ls ih =>
    obtain ⟨c, r, rfl, h3, h4⟩ := h1.cons
    exact ⟨h3, ih h4⟩
theorem LeafAll.len {p : Leaf → Value → Prop} {ls : List Leaf} {cs : List Value} (h : LeafAll p ls cs) : cs.length = ls.length := by
  induction ls generalizing cs with
  | nil => rw [h.nil]; rfl
  | cons l ls ih =>
    obtain ⟨c, r, rfl, h3, h4⟩ := h.cons
    simp [ih h4]
def leavesF (g : TypeId → Option (List Leaf)) (cells : TypeId → Nat) : Nat → List Field → Option (List Leaf)
  | _, [] => some []
  | i, f :: fs => match g f.type with
    | some l => bif Nat.beq f.offset i && Nat.beq l.length (cells f.type) then (leavesF g cells (i + l.length) fs).map (l ++ ·) else none
    | none => none
def leaves (P : Program) : Nat → TypeId → Option (List Leaf)
  | 0, _ => none
  | n + 1, t => match P.underlying t with
    | some (.int k) => some [.int k]
    | some .bool => some [.bool]
    | some .string => some [.str]
    | some (.slice e) => match leaves P n e with
      | some ls => bif Nat.blt 0 (P.cellsOf e) && Nat.beq ls.length (P.cellsOf e) then some [.row (P.cellsOf e) ls] else none
      | none => none
    | some (.struct fs) => match leavesF (leaves P n) P.cellsOf 0 fs.toList with
      | some ls => bif Nat.beq ls.length (P.cellsOf t) then some ls else none
      | none => none
    | some (.array m e) => match leaves P n e with
      | some ls => bif Nat.beq ls.length (P.cellsOf e) && Nat.beq (m * ls.length) (P.cellsOf t) then some (List.replicate m ls).flatten else none
      | none => none
    | _ => none
theorem mapM_each {α β : Type} {f : α → Option β} {l : List α} {ys : List β} (h : l.mapM f = some ys) : ∀ a ∈ l, ∃ y, f a = some y := by
  induction l generalizing ys with
  | nil => simp
  | cons a r ih =>
    rw [List.mapM_cons] at h
    simp only [bind, Option.bind_eq_some_iff, pure, Option.some.injEq] at h
    obtain ⟨y, hy, zs, hz, _⟩ := h
    intro b hb
    cases hb with
    | head => exact ⟨y, hy⟩
    | tail _ hb => exact ih hz b hb
theorem leavesF_all {p : Leaf → Value → Prop} {g : TypeId → Option (List Leaf)} {cells : TypeId → Nat} {cs : List Value} : ∀ (fs : List Field) (i : Nat) (ls : List Leaf), leavesF g cells i fs = some ls →
    (∀ f ∈ fs, ∀ l, g f.type = some l → LeafAll p l ((cs.drop f.offset).take (cells f.type))) → i + ls.length = cs.length → LeafAll p ls (cs.drop i)
  | [], i, ls, h, _, hl => by
    injection h with h
    subst h
    rw [List.drop_of_length_le (by simp at hl; omega)]
    trivial
  | f :: fs, i, ls, h, hf, hl => by
    unfold leavesF at h
    split at h
    · rename_i l hg
      cases hc : (Nat.beq f.offset i && Nat.beq l.length (cells f.type)) with
      | false => rw [hc] at h; cases h
      | true =>
        rw [hc] at h
        simp only [cond_true, Option.map_eq_some_iff] at h
        obtain ⟨r, hr, rfl⟩ := h
        rw [Bool.and_eq_true] at hc
        have h1 := Nat.eq_of_beq_eq_true hc.1
        have h2 := Nat.eq_of_beq_eq_true hc.2
        have h3 := hf f (by simp) l hg
        rw [h1, ← h2] at h3
        have h4 := leavesF_all fs (i + l.length) r hr (fun f' hm => hf f' (by simp [hm])) (by simp at hl; omega)
        have := h3.append h4
        rwa [← List.drop_drop, List.take_append_drop] at this
    · cases h
theorem replicate_all {p : Leaf → Value → Prop} {l : List Leaf} : ∀ (m : Nat) (cs : List Value), cs.length = m * l.length → (∀ j, j < m → LeafAll p l ((cs.drop (j * l.length)).take l.length)) → LeafAll p (List.replicate m l).flatten cs
  | 0, cs, hl, _ => by
    have : cs = [] := by simpa using hl
    subst this
    trivial
  | m + 1, cs, hl, h => by
    have h0 := h 0 (by omega)
    rw [Nat.zero_mul, List.drop_zero] at h0
    have h1 := replicate_all (l := l) (p := p) m (cs.drop l.length) (by rw [List.length_drop, hl, Nat.add_mul]; omega) fun j hj => by
      have := h (j + 1) (by omega)
      rw [List.drop_drop]
      rwa [show l.length + j * l.length = (j + 1) * l.length by rw [Nat.add_mul]; omega]
    have := h0.append h1
    rw [List.take_append_drop] at this
    rw [List.replicate_succ, List.flatten_cons]
    exact this
section
variable {H : Type} {enc : TypeId × Value → H} {P : Program} {w : World} {sp : Nat → Bool} {held : Bool}
theorem row_spot {x : Addr} {v : Value} (h : w.cell? x = some v) : x.spot = none ∧ x.block < w.heap.size := by
  unfold World.cell? at h
  split at h
  · rename_i hh
    split at h
    · cases h
    · rename_i hn
      refine ⟨?_, (Array.getElem?_eq_some_iff.1 hh).1⟩
      cases hs : x.spot with
      | none => rfl
      | some _ => rw [hs] at hn; exact absurd rfl hn
  · cases h
theorem trod_leaves : ∀ (fuel : Nat) (t : TypeId) (cs : List Value) (x : DataW H × List MemPlace), DataW.trod enc P w 0 sp held fuel t cs = some x → ∀ n ls, leaves P n t = some ls → ∀ d, LeafAll (Leaf.says w d) ls cs := by
  intro fuel
  induction fuel with
  | zero => intro t cs x h; simp [DataW.trod] at h
  | succ fuel ih =>
    intro t cs x h n ls hl d
    cases n with
    | zero => cases hl
    | succ n =>
      unfold leaves at hl
      split at hl
      · rename_i k hu
        obtain ⟨z, rfl, _, hw⟩ := DataW.trod_int hu h
        injection hl with hl
        subst hl
        cases d with
        | zero => exact ⟨trivial, trivial⟩
        | succ d => exact ⟨⟨z, rfl, hw⟩, trivial⟩
      · rename_i hu
        obtain ⟨b, rfl, _⟩ := DataW.trod_bool hu h
        injection hl with hl
        subst hl
        cases d with
        | zero => exact ⟨trivial, trivial⟩
        | succ d => exact ⟨⟨b, rfl⟩, trivial⟩
      · rename_i hu
        obtain ⟨s, rfl, _, hs⟩ := DataW.trod_string hu h
        injection hl with hl
        subst hl
        cases d with
        | zero => exact ⟨trivial, trivial⟩
        | succ d => exact ⟨⟨s, rfl, hs⟩, trivial⟩
      · rename_i e hu
        split at hl
        · rename_i le hle
          cases hc : (Nat.blt 0 (P.cellsOf e) && Nat.beq le.length (P.cellsOf e)) with
          | false => rw [hc] at hl; cases hl
          | true =>
            rw [hc] at hl
            injection hl with hl
            subst hl
            rw [Bool.and_eq_true] at hc
            have hpos : 0 < P.cellsOf e := by simpa [Nat.blt_eq] using hc.1
            rcases DataW.trod_slice hu h with ⟨rfl, _⟩ | ⟨a, len, cap, elems, rest, n', hn', rfl, _, _, hlc, hcm, hlen, hel, _, _⟩
            · cases d with
              | zero => exact ⟨trivial, trivial⟩
              | succ d => exact ⟨⟨none, 0, 0, rfl, fun _ => rfl, by decide, [], rfl, fun h => absurd h (by decide), by simp⟩, trivial⟩
            · cases d with
              | zero => exact ⟨trivial, trivial⟩
              | succ d =>
                injection hn' with hn'
                subst hn'
                have each : ∀ i, i < len → ∃ es, w.cells? 0 (a.add (i * P.cellsOf e)) (P.cellsOf e) = some es ∧ LeafAll (Leaf.says w d) le es := by
                  intro i hi
                  have := hel i hi
                  rw [List.getElem?_eq_getElem (by omega), Option.bind_eq_some_iff] at this
                  obtain ⟨es, h1, h2⟩ := this
                  exact ⟨es, h1, ih e es _ h2 n le hle d⟩
                have : ∃ ess : List (List Value), ess.length = len ∧ ∀ i, i < len → w.cells? 0 (a.add (i * P.cellsOf e)) (P.cellsOf e) = some (ess.getD i []) ∧ LeafAll (Leaf.says w d) le (ess.getD i []) := by
                  refine ⟨(List.range len).map fun i => if hi : i < len then (each i hi).choose else [], by simp, fun i hi => ?_⟩
                  rw [List.getD_eq_getElem?_getD, List.getElem?_map, List.getElem?_range hi]
                  simp only [Option.map_some, Option.getD_some, dif_pos hi]
                  exact (each i hi).choose_spec
                obtain ⟨ess, hsl, hs⟩ := this
                refine ⟨⟨some a, len, cap, rfl, (fun h => by cases h), by omega, ess, hsl, fun h0 => ?_, fun es hm => ?_⟩, trivial⟩
                · have cell : ∀ i, i < len → (ess.getD i []).length = P.cellsOf e ∧ ∀ j, j < P.cellsOf e → w.cell? (a.add (i * P.cellsOf e + j)) = (ess.getD i [])[j]? := by
                    intro i hi
                    have h3 := World.cells?_some (hs i hi).1
                    refine ⟨h3.2.1, fun j hj => ?_⟩
                    have := h3.2.2 j hj
                    rwa [Addr.add_add] at this
                  have h00 := (cell 0 h0).2 0 hpos
                  have hlen0 := (cell 0 h0).1
                  rw [List.getElem?_eq_getElem (by omega), Nat.zero_mul, Nat.add_zero, show a.add 0 = a from rfl] at h00
                  have hsp := row_spot h00
                  obtain ⟨b, o, s⟩ := a
                  have hs0 : s = none := hsp.1
                  subst hs0
                  refine ⟨b, o, rfl, hsp.2, fun i hi => ⟨(cell i hi).1, fun j hj => ?_⟩⟩
                  have := (cell i hi).2 j hj
                  rwa [Addr.add_lit] at this
                · obtain ⟨i, hi, rfl⟩ := List.mem_iff_getElem.1 hm
                  have := (hs i (by omega)).2
                  rwa [List.getD_eq_getElem?_getD, List.getElem?_eq_getElem hi] at this
        · cases hl
      · rename_i fs hu
        split at hl
        · rename_i lf hlf
          cases hc : Nat.beq lf.length (P.cellsOf t) with
          | false => rw [hc] at hl; cases hl
          | true =>
            rw [hc] at hl
            injection hl with hl
            subst hl
            have hcl := Nat.eq_of_beq_eq_true hc
            rw [DataW.trod_step] at h
            unfold DataW.trodStep at h
            simp only [hu] at h
            split at h
            · rename_i hlen
              simp only [Option.map_eq_some_iff] at h
              obtain ⟨ys, hys, _⟩ := h
              have := leavesF_all (p := Leaf.says w d) (cs := cs) fs.toList 0 lf hlf (fun f hf l hg => by
                obtain ⟨y, hy⟩ := mapM_each hys f hf
                exact ih f.type _ y hy n l hg d) (by omega)
              simpa using this
            · cases h
        · cases hl
      · rename_i m e hu
        split at hl
        · rename_i le hle
          cases hc : (Nat.beq le.length (P.cellsOf e) && Nat.beq (m * le.length) (P.cellsOf t)) with
          | false => rw [hc] at hl; cases hl
          | true =>
            rw [hc] at hl
            injection hl with hl
            subst hl
            rw [Bool.and_eq_true] at hc
            have h1 := Nat.eq_of_beq_eq_true hc.1
            have h2 := Nat.eq_of_beq_eq_true hc.2
            rw [DataW.trod_step] at h
            unfold DataW.trodStep at h
            simp only [hu] at h
            split at h
            · rename_i hlen
              simp only [Option.map_eq_some_iff] at h
              obtain ⟨ys, hys, _⟩ := h
              refine replicate_all m cs (by omega) fun j hj => ?_
              obtain ⟨y, hy⟩ := mapM_each hys j (List.mem_range.2 hj)
              rw [← h1] at hy
              exact ih e _ y hy n le hle d
            · cases h
        · cases hl
      · cases hl
/-- The cells of an argument. -/
theorem open_leaves {t : TypeId} {v : Value} {dd : DataW H} {ps : List MemPlace} (h : DataW.Trod enc P w 0 sp held t v dd ps) (n : Nat) {ls : List Leaf} (hl : leaves P n t = some ls) (d : Nat) : LeafAll (Leaf.says w d) ls v.cells.toList := by
  obtain ⟨fuel, hf⟩ := h
  exact trod_leaves fuel t _ _ hf n ls hl d
end
/-- An argument that is a struct or an array is an aggregate. -/
theorem okWide_agg {P : Program} {w : World} {r : Reach} {b0 : Nat} {t : TypeId} {v : Value} (h : Value.okWide P w r b0 t v) (ha : (match P.underlying t with | some (.struct _) => true | some (.array _ _) => true | _ => false) = true) : ∃ cs, v = .agg cs := by
  unfold Value.okWide at h
  split at h
  · exact ⟨_, h.choose_spec.1⟩
  · exact ⟨_, h.choose_spec.1⟩
  · rename_i h1 h2
    split at ha
    · rename_i fs hu; exact absurd hu (h1 fs)
    · rename_i m e hu; exact absurd hu (h2 m e)
    · cases ha
end Go.Sx
/- Chapter 15: the rows of reports of an argument. -/
set_option linter.unusedVariables false
set_option linter.unusedSimpArgs false
set_option maxRecDepth 8000
namespace Go.Proofs.Ytiicemgngccicaa
open Go.Sx Go.RowKit
theorem pick_list {α β : Type} [Inhabited β] {p : β → α → Prop} {l : List α} (h : ∀ x ∈ l, ∃ y, p y x) : ∃ m : List β, m.length = l.length ∧ ∀ i (hi : i < l.length), p (m.getD i default) l[i] := by
  induction l with
  | nil => exact ⟨[], rfl, fun i hi => absurd hi (Nat.not_lt_zero i)⟩
  | cons a r ih =>
    obtain ⟨y, hy⟩ := h a (by simp)
    obtain ⟨m, h1, h2⟩ := ih fun x hx => h x (by simp [hx])
    refine ⟨y :: m, by simp [h1], fun i hi => ?_⟩
    cases i with
    | zero => exact hy
    | succ i => exact h2 i (by simpa using hi)
instance : Inhabited Rep := ⟨rep0⟩
theorem rowR {w : World} {A : Option Addr} {ess : List (List Value)} {d : Nat} (hr : RdRow w A ess.length 8 (fun i => ess.getD i [])) (hw : ∀ es ∈ ess, LeafAll (Leaf.says w (d + 1)) [.int .i64, .int .i64, .int .i64, .int .i64, .int .i64, .int .i64, .int .i64, .int .i64] es) :
    ∃ l : List Rep, l.length = ess.length ∧ RdRow w A l.length 8 (elR l) := by
  obtain ⟨l, h1, h2⟩ := pick_list (p := fun (r : Rep) es => es = Rep.cs r) (l := ess) fun es he => by
    obtain ⟨_, _, rfl, ⟨a0, rfl, _⟩, e0⟩ := (hw es he).cons
    obtain ⟨_, _, rfl, ⟨a1, rfl, _⟩, e1⟩ := e0.cons
    obtain ⟨_, _, rfl, ⟨a2, rfl, _⟩, e2⟩ := e1.cons
    obtain ⟨_, _, rfl, ⟨a3, rfl, _⟩, e3⟩ := e2.cons
    obtain ⟨_, _, rfl, ⟨a4, rfl, _⟩, e4⟩ := e3.cons
    obtain ⟨_, _, rfl, ⟨a5, rfl, _⟩, e5⟩ := e4.cons
    obtain ⟨_, _, rfl, ⟨a6, rfl, _⟩, e6⟩ := e5.cons
    obtain ⟨_, _, rfl, ⟨a7, rfl, _⟩, e7⟩ := e6.cons
    obtain rfl := e7.nil
    exact ⟨⟨a0, a1, a2, a3, a4, a5, a6, a7⟩, rfl⟩
  refine ⟨l, h1, ?_⟩
  rw [h1]
  refine hr.congr fun i hi => ?_
  rw [List.getD_eq_getElem?_getD, List.getElem?_eq_getElem hi]
  exact (h2 i hi).symm
theorem gaugeLists_row (A : Option Addr) (c : Nat) (ess : List (List Value)) (x : Int) (w : World) (hr : RdRow w A ess.length 8 (fun i => ess.getD i [])) (hn : A = none → ess.length = 0) (hm : ess.length ≤ maxLen) (hw : ∀ es ∈ ess, LeafAll (Leaf.says w 3) [.int .i64, .int .i64, .int .i64, .int .i64, .int .i64, .int .i64, .int .i64, .int .i64] es) :
    Calls Try.prog 6 #[.slice A ess.length c, I x] w fun e w' => e = .returned (.bool true) ∧ Below w.heap.size w w' := by
  obtain ⟨l, h1, h2⟩ := rowR hr hw
  rw [← h1] at hn hm ⊢
  exact gaugeLists_walk A c l x w h2 hm hn
theorem gaugeTogether_row (A : Option Addr) (c : Nat) (ess : List (List Value)) (w : World) (hr : RdRow w A ess.length 8 (fun i => ess.getD i [])) (hn : A = none → ess.length = 0) (hm : ess.length ≤ maxLen) (hw : ∀ es ∈ ess, LeafAll (Leaf.says w 3) [.int .i64, .int .i64, .int .i64, .int .i64, .int .i64, .int .i64, .int .i64, .int .i64] es) :
    Calls Try.prog 8 #[.slice A ess.length c] w fun e w' => e = .returned (.bool true) ∧ Below w.heap.size w w' := by
  obtain ⟨l, h1, h2⟩ := rowR hr hw
  rw [← h1] at hn hm ⊢
  exact gaugeTogether_walk A c l w h2 hm hn
end Go.Proofs.Ytiicemgngccicaa
