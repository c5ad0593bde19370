/- Chapter 02: one digit of the long division of two words by one, plain numbers. -/
import Derived.Test.YtiicemgngccicaaP
set_option linter.unusedVariables false
set_option linter.unusedSimpArgs false
namespace Go.Proofs.Ytiicemgngccicaa
/-- v = v1 * B + v0, normalized; u < v; d a digit: the true quotient digit is below B. -/
theorem digit_lt {u v d : Nat} (hu : u < v) (hd : d < 4294967296) : (u * 4294967296 + d) / v < 4294967296 := by
  refine Nat.div_lt_of_lt_mul ?_
  have : (u + 1) * 4294967296 ≤ v * 4294967296 := Nat.mul_le_mul_right _ hu
  rw [Nat.add_mul] at this
  omega
/-- The guess is not below the true digit. -/
theorem guess_ge {u v v1 v0 d : Nat} (hv : v = v1 * 4294967296 + v0) (h1 : 0 < v1) (hd : d < 4294967296) : (u * 4294967296 + d) / v ≤ u / v1 := by
  refine (Nat.le_div_iff_mul_le h1).2 ?_
  have hpos : 0 < v := by omega
  have h2 := Nat.div_mul_le_self (u * 4294967296 + d) v
  generalize (u * 4294967296 + d) / v = q at *
  have h3 : q * v = q * v1 * 4294967296 + q * v0 := by rw [hv, Nat.mul_add, Nat.mul_assoc]
  have h4 : q * v1 * 4294967296 < (u + 1) * 4294967296 := by rw [Nat.add_mul]; omega
  have := Nat.lt_of_mul_lt_mul_right h4
  omega
/-- While the test holds, the guess is too great. -/
theorem test_gt {u v v1 v0 d q r : Nat} (hv : v = v1 * 4294967296 + v0) (hu : u < v) (hd : d < 4294967296) (hqr : q * v1 + r = u) (ht : 4294967296 ≤ q ∨ 4294967296 * r + d < q * v0) : (u * 4294967296 + d) / v < q := by
  rcases ht with h | h
  · exact Nat.lt_of_lt_of_le (digit_lt hu hd) h
  · refine Nat.div_lt_of_lt_mul ?_
    rw [hv, ← hqr, Nat.mul_comm _ q, Nat.mul_add, Nat.add_mul, ← Nat.mul_assoc q v1 4294967296, Nat.mul_comm r 4294967296]
    omega
/-- Where it does not hold, the guess is right. -/
theorem test_eq {u v v1 v0 d q r : Nat} (hv : v = v1 * 4294967296 + v0) (hpos : 0 < v) (hqr : q * v1 + r = u) (ht : q * v0 ≤ 4294967296 * r + d) (hge : (u * 4294967296 + d) / v ≤ q) : (u * 4294967296 + d) / v = q := by
  refine Nat.le_antisymm hge ((Nat.le_div_iff_mul_le hpos).2 ?_)
  rw [hv, ← hqr, Nat.mul_add, Nat.add_mul, ← Nat.mul_assoc q v1 4294967296, Nat.mul_comm r 4294967296]
  omega
/-- So it is where the rest has outgrown a digit. -/
theorem break_eq {u v v1 v0 d q r : Nat} (hv : v = v1 * 4294967296 + v0) (h1 : 0 < v1) (h0 : v0 < 4294967296) (hu : u < v) (hqr : q * v1 + r = u) (hr : 4294967296 ≤ r) (hge : (u * 4294967296 + d) / v ≤ q) : (u * 4294967296 + d) / v = q := by
  have hpos : 0 < v := by omega
  refine test_eq hv hpos hqr ?_ hge
  have hq : q < 4294967296 := by
    have : q * v1 < v1 * 4294967296 := by omega
    rw [Nat.mul_comm v1 4294967296] at this
    exact Nat.lt_of_mul_lt_mul_right this
  have h2 : q * v0 ≤ 4294967296 * 4294967296 := Nat.mul_le_mul (Nat.le_of_lt hq) (Nat.le_of_lt h0)
  have h3 : 4294967296 * 4294967296 ≤ 4294967296 * r := Nat.mul_le_mul_left _ hr
  omega
/-- What is left is below v. -/
theorem rest_lt {u v d : Nat} (hpos : 0 < v) : u * 4294967296 + d - (u * 4294967296 + d) / v * v = (u * 4294967296 + d) % v ∧ (u * 4294967296 + d) / v * v ≤ u * 4294967296 + d := by
  have h := Nat.div_add_mod' (u * 4294967296 + d) v
  have h2 := Nat.div_mul_le_self (u * 4294967296 + d) v
  omega
/-- The shift that makes the divisor's first bit stand. -/
theorem norm_bounds {d : Nat} (h0 : 0 < d) (h1 : d < 18446744073709551616) : bitLen d ≤ 64 ∧ 1 ≤ bitLen d ∧ 9223372036854775808 ≤ d * 2 ^ (64 - bitLen d) ∧ d * 2 ^ (64 - bitLen d) < 18446744073709551616 := by
  have hs := bitLen_spec d
  have hb : bitLen d ≤ 64 := by
    unfold bitLen
    split
    · omega
    · rename_i h0
      have := (Nat.log2_lt h0).2 (show d < 2 ^ 64 by omega)
      omega
  have hb1 : 1 ≤ bitLen d := by
    unfold bitLen
    rw [if_neg (by omega)]
    omega
  have h2 := hs.2 (by omega)
  have e1 : 2 ^ (bitLen d - 1) * 2 ^ (64 - bitLen d) = 9223372036854775808 := by
    rw [← Nat.pow_add, show bitLen d - 1 + (64 - bitLen d) = 63 by omega]
  have e2 : 2 ^ bitLen d * 2 ^ (64 - bitLen d) = 18446744073709551616 := by
    rw [← Nat.pow_add, show bitLen d + (64 - bitLen d) = 64 by omega]
  refine ⟨hb, hb1, ?_, ?_⟩
  · rw [← e1]; exact Nat.mul_le_mul_right _ h2
  · rw [← e2]; exact Nat.mul_lt_mul_of_pos_right hs.1 (Nat.two_pow_pos _)
/-- The low word, moved. -/
theorem low_moved (y s : Nat) (hs : s ≤ 64) : y * 2 ^ s = y / 2 ^ (64 - s) * 18446744073709551616 + y * 2 ^ s % 18446744073709551616 := by
  have e : (18446744073709551616 : Nat) = 2 ^ (64 - s) * 2 ^ s := by rw [← Nat.pow_add, show 64 - s + s = 64 by omega]
  have h : y * 2 ^ s / 18446744073709551616 = y / 2 ^ (64 - s) := by
    rw [e, Nat.mul_div_mul_right _ _ (Nat.two_pow_pos s)]
  have := Nat.div_add_mod' (y * 2 ^ s) 18446744073709551616
  rw [h] at this
  omega
theorem high_part (y s : Nat) (hs : s ≤ 64) (hy : y < 18446744073709551616) : y / 2 ^ (64 - s) < 2 ^ s := by
  refine Nat.div_lt_of_lt_mul ?_
  rw [← Nat.pow_add, show 64 - s + s = 64 by omega]
  exact hy
theorem two_digits {x y d s : Nat} (hs : s ≤ 64) (hxd : x < d) (hy : y < 18446744073709551616) : x * 2 ^ s + y / 2 ^ (64 - s) < d * 2 ^ s := by
  have h1 := high_part y s hs hy
  have h2 : (x + 1) * 2 ^ s ≤ d * 2 ^ s := Nat.mul_le_mul_right _ hxd
  rw [Nat.add_mul] at h2
  omega
end Go.Proofs.Ytiicemgngccicaa
