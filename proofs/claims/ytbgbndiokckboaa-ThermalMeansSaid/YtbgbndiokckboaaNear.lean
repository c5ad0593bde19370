/- RoundingNear returns true for all arguments. -/
import Derived.Test.YtbgbndiokckboaaI
set_option linter.unusedVariables false
set_option linter.unusedSimpArgs false
set_option maxRecDepth 8000
namespace Go.Proofs.Ytbgbndiokckboaa
open Go.Sx Go.RowKit
theorem quo_err {a b rule : Int} (h : (quo3 a b rule).2.2 ≠ 0) : (quo3 a b rule).1 = 0 ∧ (quo3 a b rule).2.1 = 0 := by
  unfold quo3 at h ⊢
  split
  · exact ⟨rfl, rfl⟩
  · rename_i h1
    rw [if_neg h1] at h
    split
    · exact ⟨rfl, rfl⟩
    · rename_i h2
      rw [if_neg h2] at h
      exact absurd rfl h
theorem quo_ok {a b rule : Int} (h : (quo3 a b rule).2.2 = 0) : ((-M ≤ a ∧ a ≤ M) ∧ (1 ≤ b ∧ b ≤ M) ∧ (1 ≤ rule ∧ rule ≤ 4)) ∧ (quo3 a b rule).1 = rndQ a b rule ∧ (quo3 a b rule).2.1 = rndR a b rule := by
  unfold quo3 at h ⊢
  split at h
  · cases h
  rename_i h1
  split at h
  · cases h
  rename_i h2
  rw [if_neg h1, if_neg h2]
  have h1' := isB_true (r := rule) (by simpa using h1)
  have h2' : (¬ a < -128849018880000 ∧ ¬ a > 128849018880000) ∧ divB b = true := by simpa [not_or] using h2
  have h3 := divB_true h2'.2
  exact ⟨⟨⟨by unfold M; omega, by unfold M; omega⟩, h3, h1'⟩, rfl, rfl⟩
theorem rnd_sum {a b rule : Int} (hb : 1 ≤ b) : rndQ a b rule * b = a - rndR a b rule := by
  have h2 := Int.mul_ediv_add_emod a b
  unfold rndQ rndR
  split
  · rw [Int.add_mul, Int.mul_comm (a / b) b]; omega
  · rw [Int.mul_comm (a / b) b]; omega
theorem up_pos {q r b rule : Int} (hb : 1 ≤ b) (hr : 0 ≤ r) (h : upB rule q r b = true) : 0 < r := by
  unfold upB at h
  split at h
  · cases h
  · split at h
    · exact of_decide_eq_true h
    · split at h
      · have := of_decide_eq_true h; omega
      · simp at h
        rcases h with h | h <;> omega
theorem rndR_lt {a b rule : Int} (hb : 1 ≤ b) : -b < rndR a b rule ∧ rndR a b rule < b := by
  have h0 := Int.emod_nonneg a (show b ≠ 0 by omega)
  have h1 := Int.emod_lt_of_pos a (show 0 < b by omega)
  unfold rndR
  split
  · rename_i h
    have := up_pos hb h0 h
    omega
  · omega
theorem near1 {a b : Int} (hb : 1 ≤ b) : 0 ≤ rndR a b 1 := by
  have h0 := Int.emod_nonneg a (show b ≠ 0 by omega)
  simp only [rndR, upB, if_true, Bool.false_eq_true, if_false]
  exact h0
theorem near2 {a b : Int} (hb : 1 ≤ b) : rndR a b 2 ≤ 0 := by
  have h0 := Int.emod_nonneg a (show b ≠ 0 by omega)
  have h1 := Int.emod_lt_of_pos a (show 0 < b by omega)
  unfold rndR
  split
  · omega
  · rename_i h
    have : ¬ (a % b > 0) := by simpa [upB] using h
    omega
theorem near3 {a b : Int} (hb : 1 ≤ b) : 2 * rndR a b 3 < b ∧ -b ≤ 2 * rndR a b 3 := by
  have h0 := Int.emod_nonneg a (show b ≠ 0 by omega)
  have h1 := Int.emod_lt_of_pos a (show 0 < b by omega)
  unfold rndR
  split
  · rename_i h
    have : 2 * (a % b) ≥ b := by simpa [upB] using h
    omega
  · rename_i h
    have : ¬ (2 * (a % b) ≥ b) := by simpa [upB] using h
    omega
theorem tmod2 {q : Int} (h : q.tmod 2 ≠ 0) : (q + 1).tmod 2 = 0 := by
  have e : ∀ z : Int, z.tmod 2 = 0 ↔ z % 2 = 0 := fun z => by
    rw [← Int.dvd_iff_emod_eq_zero, ← Int.dvd_iff_tmod_eq_zero]
  rw [e] at *
  have : ¬ q % 2 = 0 := fun h2 => h ((e q).2 h2)
  omega
theorem near4 {a b : Int} (hb : 1 ≤ b) : 2 * rndR a b 4 ≤ b ∧ -b ≤ 2 * rndR a b 4 ∧ (2 * rndR a b 4 ≠ b ∧ 2 * rndR a b 4 ≠ -b ∨ (rndQ a b 4).tmod 2 = 0) := by
  have h0 := Int.emod_nonneg a (show b ≠ 0 by omega)
  have h1 := Int.emod_lt_of_pos a (show 0 < b by omega)
  unfold rndR rndQ
  split
  · rename_i h
    have : b < 2 * (a % b) ∨ 2 * (a % b) = b ∧ ¬ (a / b).tmod 2 = 0 := by simpa [upB] using h
    refine ⟨by omega, by omega, ?_⟩
    rcases this with h | ⟨h, h2⟩
    · left; omega
    · right; exact tmod2 h2
  · rename_i h
    have : ¬ b < 2 * (a % b) ∧ (2 * (a % b) = b → (a / b).tmod 2 = 0) := by simpa [upB] using h
    refine ⟨by omega, by omega, ?_⟩
    by_cases h3 : 2 * (a % b) = b
    · right; exact this.2 h3
    · left; omega
end Go.Proofs.Ytbgbndiokckboaa
