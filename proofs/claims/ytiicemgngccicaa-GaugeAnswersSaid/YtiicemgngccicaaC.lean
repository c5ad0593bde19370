/- Chapter 02: the reference's quotient and step are the program's. -/
import Derived.Test.YtiicemgngccicaaB
set_option linter.unusedVariables false
set_option linter.unusedSimpArgs false
namespace Go.Proofs.Ytiicemgngccicaa
open Go.Sx Go.RowKit
theorem refUp_eq {q r b rule : Int} (hb : 1 ≤ b) (hr : 0 ≤ r ∧ r < b) (hk : 1 ≤ rule ∧ rule ≤ 4) : refUp q r b rule = upB rule q r b := by
  unfold refUp upB
  rcases (show rule = 1 ∨ rule = 2 ∨ rule = 3 ∨ rule = 4 by omega) with rfl | rfl | rfl | rfl
  · simp
  · by_cases h : r = 0
    · simp [h]
    · have : 0 < r := by omega
      simp [h, this]
  · by_cases h : r = 0
    · subst h
      have : ¬ (b ≤ 0) := by omega
      simp [this]
    · by_cases h1 : r > b - r
      · have : b ≤ 2 * r := by omega
        simp [h, h1, this]
      · by_cases h2 : r < b - r
        · have : ¬ b ≤ 2 * r := by omega
          have h3 : ¬ (b - r < r) := by omega
          simp [h, h3, h2, this]
        · have h3 : ¬ (b - r < r) := by omega
          have : b ≤ 2 * r := by omega
          simp [h, h3, h2, this]
  · by_cases h : r = 0
    · subst h
      have h1 : ¬ (b < 0) := by omega
      have h2 : ¬ (0 = b) := by omega
      simp [h1, h2]
    · by_cases h1 : r > b - r
      · have : b < 2 * r := by omega
        simp [h, h1, this]
      · have h3 : ¬ (b - r < r) := by omega
        have h4 : ¬ b < 2 * r := by omega
        by_cases h2 : r < b - r
        · have : ¬ 2 * r = b := by omega
          simp [h, h3, h2, h4, this]
        · have : 2 * r = b := by omega
          simp [h, h3, h2, h4, this]
theorem refq_eq {a b rule : Int} (hb : 1 ≤ b) (hk : 1 ≤ rule ∧ rule ≤ 4) : (if refUp (a / b) (a % b) b rule = true then a / b + 1 else a / b) = rndQ a b rule ∧ a - rndQ a b rule * b = rndR a b rule := by
  have h0 := Int.emod_nonneg a (show b ≠ 0 by omega)
  have h1 := Int.emod_lt_of_pos a (show 0 < b by omega)
  have h2 := Int.mul_ediv_add_emod a b
  rw [refUp_eq hb ⟨h0, h1⟩ hk]
  refine ⟨rfl, ?_⟩
  unfold rndQ rndR
  split
  · rw [Int.add_mul, Int.mul_comm (a / b) b]; omega
  · rw [Int.mul_comm (a / b) b]; omega
end Go.Proofs.Ytiicemgngccicaa
