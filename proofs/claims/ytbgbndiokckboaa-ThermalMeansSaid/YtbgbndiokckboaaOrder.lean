/- RoundingOrder returns true for all arguments. -/
import Derived.Test.YtbgbndiokckboaaNear
set_option linter.unusedVariables false
set_option linter.unusedSimpArgs false
set_option maxRecDepth 8000
namespace Go.Proofs.Ytbgbndiokckboaa
open Go.Sx Go.RowKit
theorem upB_mono {q r r' b rule : Int} (h : r ≤ r') (hu : upB rule q r b = true) : upB rule q r' b = true := by
  unfold upB at *
  split
  · rename_i h1; simp [h1] at hu
  · rename_i h1
    rw [if_neg h1] at hu
    split
    · rename_i h2
      rw [if_pos h2] at hu
      have := of_decide_eq_true hu
      exact decide_eq_true (by omega)
    · rename_i h2
      rw [if_neg h2] at hu
      split
      · rename_i h3
        rw [if_pos h3] at hu
        have := of_decide_eq_true hu
        exact decide_eq_true (by omega)
      · rename_i h3
        rw [if_neg h3] at hu
        have hu : b < 2 * r ∨ 2 * r = b ∧ ¬ q.tmod 2 = 0 := by simpa using hu
        have : b < 2 * r' ∨ 2 * r' = b ∧ ¬ q.tmod 2 = 0 := by
          rcases hu with hu | ⟨h4, h5⟩
          · left; omega
          · by_cases h6 : r = r'
            · subst h6; exact .inr ⟨h4, h5⟩
            · left; omega
        simpa using this
theorem rndQ_near {a b rule : Int} : a / b ≤ rndQ a b rule ∧ rndQ a b rule ≤ a / b + 1 := by
  unfold rndQ; split <;> omega
theorem rndQ_mono {a a' b rule : Int} (hb : 1 ≤ b) (h : a ≤ a') : rndQ a b rule ≤ rndQ a' b rule := by
  have hd := Int.ediv_le_ediv (show 0 < b by omega) h
  have h1 := rndQ_near (a := a) (b := b) (rule := rule)
  have h2 := rndQ_near (a := a') (b := b) (rule := rule)
  by_cases e : a / b = a' / b
  · have m1 := Int.mul_ediv_add_emod a b
    have m2 := Int.mul_ediv_add_emod a' b
    rw [e] at m1
    unfold rndQ
    rw [e]
    split
    · rename_i hu
      rw [if_pos (upB_mono (by omega) hu)]
      omega
    · split <;> omega
  · omega
theorem rndQ_down {a b : Int} : rndQ a b 1 = a / b := by simp [rndQ, upB]
theorem rndQ_up {a b : Int} : rndQ a b 2 = if a % b > 0 then a / b + 1 else a / b := by simp [rndQ, upB]
theorem rndQ_le_up {a b rule : Int} (hb : 1 ≤ b) : rndQ a b rule ≤ rndQ a b 2 := by
  have h0 := Int.emod_nonneg a (show b ≠ 0 by omega)
  rw [rndQ_up]
  unfold rndQ
  split
  · rename_i h
    rw [if_pos (up_pos hb h0 h)]
    omega
  · split <;> omega
theorem rndQ_neg {a b : Int} (hb : 1 ≤ b) : rndQ (-a) b 2 = -(a / b) := by
  have h0 := Int.emod_nonneg a (show b ≠ 0 by omega)
  have h1 := Int.emod_lt_of_pos a (show 0 < b by omega)
  have m1 := Int.mul_ediv_add_emod a b
  rw [rndQ_up]
  by_cases e : a % b = 0
  · have : (-a) / b = -(a / b) ∧ (-a) % b = 0 := by
      have := (Int.ediv_emod_unique (a := -a) (b := b) (r := 0) (q := -(a / b)) (by omega)).2 ⟨by rw [Int.mul_neg]; omega, by omega, by omega⟩
      exact this
    rw [this.1, this.2]
    simp
  · have : (-a) / b = -(a / b) - 1 ∧ (-a) % b = b - a % b := by
      have := (Int.ediv_emod_unique (a := -a) (b := b) (r := b - a % b) (q := -(a / b) - 1) (by omega)).2 ⟨by rw [Int.mul_sub, Int.mul_neg]; omega, by omega, by omega⟩
      exact this
    rw [this.1, this.2, if_pos (by omega)]
    omega
theorem quo3_of {a b rule : Int} (ha : -M ≤ a ∧ a ≤ M) (hb : 1 ≤ b ∧ b ≤ M) (hk : 1 ≤ rule ∧ rule ≤ 4) : quo3 a b rule = (rndQ a b rule, rndR a b rule, 0) := by
  unfold quo3
  rw [if_neg (by simp [isB, hk]), if_neg (by simp [divB]; unfold M at *; omega)]
theorem rndQ_bd {a b rule : Int} (ha : -M ≤ a ∧ a ≤ M) (hb : 1 ≤ b) : -M ≤ rndQ a b rule ∧ rndQ a b rule ≤ M + 1 := by
  have := rndQ_near (a := a) (b := b) (rule := rule)
  have := div_bound ha hb
  omega
end Go.Proofs.Ytbgbndiokckboaa
