/- Chapter 05: what is corrected, in whole numbers: rounded quotients. -/
import Derived.Test.YtbgbndiokckboaaThE
import Derived.Test.YtbgbndiokckboaaOrder
set_option linter.unusedVariables false
set_option linter.unusedSimpArgs false
set_option maxRecDepth 8000
namespace Go.Proofs.Ytbgbndiokckboaa
open Go.Sx Go.RowKit
theorem upB_frac {q r c s d k : Int} (hc : 1 ≤ c) (hd : 1 ≤ d) (h : r * d ≤ s * c) (hr : 0 ≤ r) (hu : upB k q r c = true) : upB k q s d = true := by
  obtain ⟨X, hX⟩ : ∃ X, X = r * d := ⟨_, rfl⟩
  obtain ⟨Y, hY⟩ : ∃ Y, Y = s * c := ⟨_, rfl⟩
  obtain ⟨Z, hZ⟩ : ∃ Z, Z = c * d := ⟨_, rfl⟩
  rw [← hX, ← hY] at h
  have lo : ∀ m : Int, m ≤ 2 * r → m * d ≤ 2 * X := fun m hm => by
    have := Int.mul_le_mul_of_nonneg_right hm (show 0 ≤ d by omega)
    rw [Int.mul_assoc, ← hX] at this; exact this
  have hi : ∀ m : Int, 2 * s ≤ m → 2 * Y ≤ m * c := fun m hm => by
    have := Int.mul_le_mul_of_nonneg_right hm (show 0 ≤ c by omega)
    rw [Int.mul_assoc, ← hY] at this; exact this
  unfold upB at *
  split
  · rename_i h1; simp [h1] at hu
  · rename_i h1
    rw [if_neg h1] at hu
    split
    · rename_i h2
      rw [if_pos h2] at hu
      have hu := of_decide_eq_true hu
      apply decide_eq_true
      have := lo 2 (by omega)
      false_or_by_contra
      have := hi 0 (by omega)
      omega
    · rename_i h2
      rw [if_neg h2] at hu
      split
      · rename_i h3
        rw [if_pos h3] at hu
        have hu := of_decide_eq_true hu
        apply decide_eq_true
        have := lo c (by omega)
        false_or_by_contra
        have := hi (d - 1) (by omega)
        rw [Int.sub_mul, Int.mul_comm d c] at this
        omega
      · rename_i h3
        rw [if_neg h3] at hu
        have hu : c < 2 * r ∨ 2 * r = c ∧ ¬ q.tmod 2 = 0 := by simpa using hu
        have : d < 2 * s ∨ 2 * s = d ∧ ¬ q.tmod 2 = 0 := by
          rcases hu with hu | ⟨h4, h5⟩
          · left
            have := lo (c + 1) (by omega)
            rw [Int.add_mul] at this
            false_or_by_contra
            have := hi d (by omega)
            rw [Int.mul_comm d c] at this
            omega
          · by_cases h6 : 2 * s = d
            · exact .inr ⟨h6, h5⟩
            · left
              have := lo c (by omega)
              false_or_by_contra
              have := hi (d - 1) (by omega)
              rw [Int.sub_mul, Int.mul_comm d c] at this
              omega
        simpa using this
theorem rnd_frac {x c y d k : Int} (hc : 1 ≤ c) (hd : 1 ≤ d) (h : x * d ≤ y * c) : rndQ x c k ≤ rndQ y d k := by
  have m1 := Int.mul_ediv_add_emod x c
  have m2 := Int.mul_ediv_add_emod y d
  have b1 := Int.emod_nonneg x (show c ≠ 0 by omega)
  have b2 := Int.emod_nonneg y (show d ≠ 0 by omega)
  have hq : x / c ≤ y / d := by
    rw [Int.le_ediv_iff_mul_le (show 0 < d by omega)]
    have h1 : x / c * c ≤ x := by rw [Int.mul_comm]; omega
    have h2 := Int.mul_le_mul_of_nonneg_right h1 (show 0 ≤ d by omega)
    have h3 : (x / c * d) * c ≤ y * c := by
      have e : x / c * c * d = x / c * d * c := by rw [Int.mul_assoc, Int.mul_comm c d, ← Int.mul_assoc]
      omega
    exact Int.le_of_mul_le_mul_right h3 (by omega)
  have n1 := rndQ_near (a := x) (b := c) (rule := k)
  have n2 := rndQ_near (a := y) (b := d) (rule := k)
  by_cases e : x / c = y / d
  · unfold rndQ
    rw [e]
    rw [e] at m1
    have hr : x % c * d ≤ y % d * c := by
      have e1 : x % c = x - c * (y / d) := by omega
      have e2 : y % d = y - d * (y / d) := by omega
      rw [e1, e2, Int.sub_mul, Int.sub_mul]
      have : c * (y / d) * d = d * (y / d) * c := by
        rw [Int.mul_comm c, Int.mul_assoc, Int.mul_comm d (y / d), Int.mul_assoc, Int.mul_comm c d]
      omega
    split
    · rename_i hu
      rw [if_pos (upB_frac hc hd hr b1 hu)]
      omega
    · split <;> omega
  · omega
theorem rnd_near {x c k : Int} (hc : 1 ≤ c) : x - c < rndQ x c k * c ∧ rndQ x c k * c < x + c := by
  have h1 := rnd_sum (a := x) (b := c) (rule := k) hc
  have h2 := rndR_lt (a := x) (b := c) (rule := k) hc
  omega
theorem rnd_exact {x c k : Int} (hc : 1 ≤ c) : rndQ (x * c) c k = x := by
  have h1 : x * c / c = x := Int.mul_ediv_cancel _ (by omega)
  have h2 : x * c % c = 0 := Int.mul_emod_left _ _
  unfold rndQ
  rw [h1, h2, if_neg]
  intro h
  have := up_pos hc (by omega) h
  omega
theorem rnd_nonneg {x c k : Int} (hc : 1 ≤ c) (hx : 0 ≤ x) : 0 ≤ rndQ x c k := by
  have n1 := rndQ_near (a := x) (b := c) (rule := k)
  have := Int.ediv_nonneg hx (show 0 ≤ c by omega)
  omega
theorem rnd_down {x c k : Int} : rndQ x c 1 ≤ rndQ x c k := by
  rw [rndQ_down]
  exact rndQ_near.1
theorem amt_of {n : Int} (h : 0 ≤ n ∧ n ≤ M) : amtB n = true := by
  unfold amtB M at *
  simp; omega
theorem prod2_full {a b c k : Int} (ha : 0 ≤ a ∧ a ≤ M) (hb : 0 ≤ b ∧ b ≤ M) (hc : 1 ≤ c ∧ c ≤ M) (hk : isB k = true) : prod2 a b c k = if rndQ (a * b) c k > M then (0, 15) else (rndQ (a * b) c k, 0) := by
  have e1 := amt_of ha
  have e2 := amt_of hb
  have e3 := amt_of (n := c) ⟨by omega, hc.2⟩
  have n1 := rndQ_near (a := a * b) (b := c) (rule := k)
  obtain ⟨x, rfl⟩ : ∃ x : Nat, a = x := ⟨a.toNat, by omega⟩
  obtain ⟨y, rfl⟩ : ∃ y : Nat, b = y := ⟨b.toNat, by omega⟩
  obtain ⟨z, rfl⟩ : ∃ z : Nat, c = z := ⟨c.toNat, by omega⟩
  have q1 : (x : Int) * y / z = ((x * y / z : Nat) : Int) := by rw [← Int.natCast_mul, Int.natCast_ediv]
  have q2 : (x : Int) * y % z = ((x * y % z : Nat) : Int) := by rw [← Int.natCast_mul, Int.natCast_emod]
  have hz : ¬ ((z : Int) == 0) = true := by simp; omega
  have ho : of3 x y z = if decide (x * y / z > 128849018880000) = true then (0, 0, 15) else (((x * y / z : Nat) : Int), ((x * y % z : Nat) : Int), 0) := by
    unfold of3
    rw [if_neg (by simp [e1, e2, e3]), if_neg hz]
    simp only [Int.toNat_natCast]
    unfold dvd3
    cases hdec : decide (x * y / z > 128849018880000) <;> rfl
  unfold prod2
  rw [if_neg (by simp [hk])]
  by_cases h : x * y / z > 128849018880000
  · rw [if_pos (decide_eq_true h)] at ho
    rw [ho]
    have : rndQ (↑x * ↑y) ↑z k > M := by rw [q1] at n1; unfold M; omega
    rw [if_pos this]
    rfl
  · rw [if_neg (by simpa using h)] at ho
    rw [ho]
    have hr : rndQ (↑x * ↑y) ↑z k = if upB k (x * y / z : Nat) (x * y % z : Nat) z = true then ((x * y / z : Nat) : Int) + 1 else (x * y / z : Nat) := by
      unfold rndQ
      rw [q1, q2]
    simp only
    rw [← hr]
    simp only [decide_eq_true_eq]
    rfl
def fac (r h : Int) : Int := 10000000 + r * (h - 200)
theorem fac_bd {r h : Int} (hr : thermal_rises r = true) (hh : thermal_heat h = true) : (0 ≤ r ∧ r ≤ 10000) ∧ (-400 ≤ h ∧ h ≤ 600) ∧ 4000000 ≤ fac r h ∧ fac r h ≤ 14000000 ∧ -6000000 ≤ r * (h - 200) ∧ r * (h - 200) ≤ 4000000 := by
  have h1 : 0 ≤ r ∧ r ≤ 10000 := by simpa [thermal_rises] using hr
  have h2 : -400 ≤ h ∧ h ≤ 600 := by simpa [thermal_heat] using hh
  have l1 : -6000000 ≤ r * (h - 200) := by
    have := Int.mul_le_mul_of_nonneg_left (show -600 ≤ h - 200 by omega) h1.1
    omega
  have l2 : r * (h - 200) ≤ 4000000 := by
    have := Int.mul_le_mul_of_nonneg_left (show h - 200 ≤ 400 by omega) h1.1
    omega
  unfold fac
  omega
theorem factor_ok {r h : Int} (hr : thermal_rises r = true) (hh : thermal_heat h = true) : thermal_Factor r h = (fac r h, 0) := by
  have hb := fac_bd hr hh
  unfold thermal_Factor
  rw [if_neg (by simp [hr, hh]), IntWalk.i64_in (h - 200) (by omega), IntWalk.i64_in (r * (h - 200)) (by omega), IntWalk.i64_in _ (by omega)]
  rfl
def rdy (v r h k : Int) : Int := if (!isB k) = true then 1 else if (!(thermal_rises r && thermal_heat h && amtB v)) = true then 2 else 0
theorem cor_err {v r h k : Int} (b : Bool) (hz : rdy v r h k ≠ 0) : thermal_corrected v r h k b = (0, rdy v r h k) := by
  unfold thermal_corrected rdy at *
  cases hk : isB k with
  | false => rfl
  | true =>
    rw [hk] at hz
    rw [amount_eq]
    unfold thermal_Factor
    cases h1 : thermal_rises r <;> cases h2 : thermal_heat h <;> cases h3 : amtB v <;> first | rfl | (rw [h1, h2, h3] at hz; exact absurd rfl hz)
theorem rdy_ok {v r h k : Int} (hz : rdy v r h k = 0) : isB k = true ∧ thermal_rises r = true ∧ thermal_heat h = true ∧ amtB v = true := by
  unfold rdy at hz
  cases hk : isB k <;> cases h1 : thermal_rises r <;> cases h2 : thermal_heat h <;> cases h3 : amtB v <;> simp_all
theorem rdy_of {v r h k : Int} (hk : isB k = true) (h1 : thermal_rises r = true) (h2 : thermal_heat h = true) (h3 : amtB v = true) : rdy v r h k = 0 := by
  unfold rdy
  rw [hk, h1, h2, h3]; rfl
theorem rdy_pos {v r h k : Int} (hz : rdy v r h k ≠ 0) : rdy v r h k = 1 ∧ isB k = false ∨ rdy v r h k = 2 := by
  unfold rdy at *
  cases hk : isB k <;> cases h1 : thermal_rises r <;> cases h2 : thermal_heat h <;> cases h3 : amtB v <;> simp_all
theorem at_err {v r h k : Int} (hz : rdy v r h k ≠ 0) : thermal_At v r h k = (0, rdy v r h k) := by rw [thermal_At, cor_err false hz]
theorem to20_err {v r h k : Int} (hz : rdy v r h k ≠ 0) : thermal_To20 v r h k = (0, rdy v r h k) := by rw [thermal_To20, cor_err true hz]
theorem at_full {v r h k : Int} (hz : rdy v r h k = 0) : thermal_At v r h k = if rndQ (v * fac r h) 10000000 k > M then (0, 15) else (rndQ (v * fac r h) 10000000 k, 0) := by
  obtain ⟨hk, h1, h2, h3⟩ := rdy_ok hz
  have hb := fac_bd h1 h2
  unfold thermal_At thermal_corrected
  rw [amount_eq, factor_ok h1 h2, if_neg (by simp [hk]), if_neg (by simp [h3]), if_neg (by simp)]
  exact prod2_full (amtB_true h3) (by simp only [M]; omega) (by simp only [M]; omega) hk
theorem to20_full {v r h k : Int} (hz : rdy v r h k = 0) : thermal_To20 v r h k = if rndQ (v * 10000000) (fac r h) k > M then (0, 15) else (rndQ (v * 10000000) (fac r h) k, 0) := by
  obtain ⟨hk, h1, h2, h3⟩ := rdy_ok hz
  have hb := fac_bd h1 h2
  unfold thermal_To20 thermal_corrected
  rw [amount_eq, factor_ok h1 h2, if_neg (by simp [hk]), if_neg (by simp [h3]), if_pos rfl]
  exact prod2_full (amtB_true h3) (by simp only [M]; omega) (by simp only [M]; omega) hk
end Go.Proofs.Ytbgbndiokckboaa
