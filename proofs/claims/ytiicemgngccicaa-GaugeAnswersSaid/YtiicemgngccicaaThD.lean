/- Chapter 05: program and reference compute the same; the examples of the chapter hold. -/
import Derived.Test.YtiicemgngccicaaThC
set_option linter.unusedVariables false
set_option linter.unusedSimpArgs false
set_option maxRecDepth 8000
set_option maxHeartbeats 1000000
namespace Go.Proofs.Ytiicemgngccicaa
open Go.Sx Go.RowKit
theorem cmp_api_Bounds : CmpT Try.prog 30 (Try.prog.fieldsOf 30) := ⟨by kernel_rfl, by kernel_rfl, by kernel_rfl, by kernel_rfl⟩
theorem amount_eq (v : Int) : thermal_amount v = amtB v := by
  unfold thermal_amount of3
  cases h : amtB v with
  | false => simp [h]
  | true =>
    have h1 : amtB 0 = true := rfl
    have h2 : amtB 1 = true := rfl
    have h3 : (dvd3 v.toNat 0 1).2.2 = true := by
      have : v.toNat * 0 / 1 = 0 := by simp
      rw [dvd3, this]; rfl
    simp [h, h1, h2, h3]
theorem rises_eq (r : Int) : thermal_rises r = !(decide (r < 0) || decide (r > 10000)) := by
  unfold thermal_rises
  rw [Bool.eq_iff_iff]
  simp
theorem heat_eq (t : Int) : spileref05_IsHeat t = thermal_heat t := rfl
theorem factor_eq (r t : Int) : spileref05_Factor r t = thermal_Factor r t := by
  unfold spileref05_Factor thermal_Factor
  rw [rises_eq, heat_eq, Bool.not_not]
  rfl
theorem of_eq {r t : Int} (h : (thermal_Factor r t).2 = 0) : (thermal_Factor r t).1 = spileref05_Of r t := by
  unfold thermal_Factor at h ⊢
  split at h
  · cases h
  · rename_i h1; rw [if_neg h1]; rfl
theorem ready_eq (v r t k : Int) : spileref05_ready v r t k = if (!isB k) = true then 1 else if ((thermal_Factor r t).2 != 0 || !(thermal_amount v)) = true then 2 else 0 := by
  unfold spileref05_ready
  rw [factor_eq, amount_eq]
theorem at_eq (v r t k : Int) : spileref05_At v r t k = thermal_At v r t k := by
  unfold spileref05_At thermal_At thermal_corrected
  rw [ready_eq]
  cases hk : isB k with
  | false => rfl
  | true =>
    cases h2 : ((thermal_Factor r t).2 != 0 || !(thermal_amount v)) with
    | true => rfl
    | false =>
      have h3 : (thermal_Factor r t).2 = 0 := by
        rw [Bool.or_eq_false_iff] at h2
        simpa using h2.1
      rw [of_eq h3]; rfl
theorem to20_eq (v r t k : Int) : spileref05_To20 v r t k = thermal_To20 v r t k := by
  unfold spileref05_To20 thermal_To20 thermal_corrected
  rw [ready_eq]
  cases hk : isB k with
  | false => rfl
  | true =>
    cases h2 : ((thermal_Factor r t).2 != 0 || !(thermal_amount v)) with
    | true => rfl
    | false =>
      have h3 : (thermal_Factor r t).2 = 0 := by
        rw [Bool.or_eq_false_iff] at h2
        simpa using h2.1
      rw [of_eq h3]; rfl
theorem of3_nonneg (a b c : Int) : 0 ≤ (of3 a b c).2.2 := by
  unfold of3
  split
  · decide
  · split
    · decide
    · split
      · decide
      · exact Int.le_refl 0
theorem prod2_nonneg (a b c k : Int) : 0 ≤ (prod2 a b c k).2 := by
  have := of3_nonneg a b c
  unfold prod2
  split
  · decide
  · split
    · exact this
    · repeat' split
      all_goals first | decide | exact Int.le_refl 0
theorem to20_nonneg (v r t k : Int) : 0 ≤ (thermal_To20 v r t k).2 := by
  have := prod2_nonneg v 10000000 (thermal_Factor r t).1 k
  unfold thermal_To20 thermal_corrected
  split
  · decide
  · split
    · decide
    · exact this
theorem worse_ne {a b : Int} (ha : 0 ≤ a) (hb : 0 ≤ b) : (worse (worse 0 a) b != 0) = ((a != 0) || (b != 0)) := by
  unfold worse
  rw [Bool.eq_iff_iff]
  simp only [bne_iff_ne, Bool.or_eq_true, ne_eq]
  split <;> split <;> omega
theorem btw_eq (a b s t r : Int) : spileref05_Between a b s t r = btw3 a b s t r := by
  unfold spileref05_Between btw3
  rw [worse_ne (to20_nonneg _ _ _ _) (to20_nonneg _ _ _ _)]
  simp only [to20_eq]
  have e : ((spileref05_ready a r s 2 != 0) || (spileref05_ready b r t 2 != 0)) = ((((!(thermal_rises r)) || (!(thermal_heat s))) || (!(thermal_heat t))) || (!(thermal_amount a)) || (!(thermal_amount b))) := by
    rw [ready_eq, ready_eq]
    unfold thermal_Factor
    rw [show isB 2 = true from rfl]
    cases thermal_rises r <;> cases thermal_heat s <;> cases thermal_heat t <;> cases thermal_amount a <;> cases thermal_amount b <;> rfl
  rw [e]
end Go.Proofs.Ytiicemgngccicaa
