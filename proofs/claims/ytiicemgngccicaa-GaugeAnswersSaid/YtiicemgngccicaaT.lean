/- Chapter 02: the reference's product of two numbers, as two words of 62 bits. -/
import Derived.Test.YtiicemgngccicaaS
set_option linter.unusedVariables false
set_option linter.unusedSimpArgs false
namespace Go.Proofs.Ytiicemgngccicaa
open Go.Sx Go.RowKit
theorem and31 (n : Nat) (h : n < 18446744073709551616) : bitsOp .and .u64 (n : Int) 2147483647 = ((n % 2147483648 : Nat) : Int) := by
  show IntKind.u64.wrap (((BitVec.ofInt 64 (n : Int) &&& BitVec.ofInt 64 2147483647).toNat : Nat) : Int) = _
  rw [BitVec.ofInt_natCast, show BitVec.ofInt 64 2147483647 = BitVec.ofNat 64 2147483647 from rfl, BitVec.toNat_and, BitVec.toNat_ofNat, BitVec.toNat_ofNat, Nat.mod_eq_of_lt (show n < 2 ^ 64 by omega), show 2147483647 % 2 ^ 64 = 2 ^ 31 - 1 by rfl, Nat.and_two_pow_sub_one_eq_mod]
  rw [IntKind.wrap_u64]; omega
theorem shr31 (n : Nat) : ((n : Int).fdiv (2 ^ (min (31 : Int).toNat IntKind.u64.bits))) = ((n / 2147483648 : Nat) : Int) := by
  have : (2 : Int) ^ (min (31 : Int).toNat IntKind.u64.bits) = 2147483648 := rfl
  rw [this, Int.fdiv_eq_ediv_of_nonneg _ (by decide)]
  omega
theorem shl31 (n : Nat) (h : n < 2147483648) : IntKind.u64.wrap ((n : Int) * 2 ^ (min (31 : Int).toNat IntKind.u64.bits)) = ((n * 2 ^ 31 : Nat) : Int) := by
  have : (2 : Int) ^ (min (31 : Int).toNat IntKind.u64.bits) = 2147483648 := rfl
  rw [this, IntKind.wrap_u64]
  omega
theorem halves31 {x y : Nat} : x * y = (x / 2147483648) * (y / 2147483648) * 4611686018427387904 + ((x % 2147483648) * (y / 2147483648) + (x / 2147483648) * (y % 2147483648)) * 2147483648 + (x % 2147483648) * (y % 2147483648) := by
  have h := Go.Lib.split_mul (x / 2147483648) (x % 2147483648) (y / 2147483648) (y % 2147483648) 2147483648
  rw [Nat.div_add_mod' x 2147483648, Nat.div_add_mod' y 2147483648] at h
  rw [h]
  omega
theorem refProd_any (x y : Nat) (hx : x < 4611686018427387904) (hy : y < 4611686018427387904) (w : World) :
    Calls Try.prog 98 #[I x, I y] w fun e w' => e = .returned (.agg #[U (x * y / 4611686018427387904 : Nat), U (x * y % 4611686018427387904 : Nat)]) ∧ Below w.heap.size w w' := by
  refine enterPlain tfine Try.func98 rfl 53 Try.ntmps98 [.c (.k (I x)), .c (.k (I y))] [] rfl rfl trivial ⟨trivial, trivial, trivial⟩ ?_
  have hxy := halves31 (x := x) (y := y)
  obtain ⟨x1, hx1⟩ : ∃ z, z = x / 2147483648 := ⟨_, rfl⟩
  obtain ⟨x0, hx0⟩ : ∃ z, z = x % 2147483648 := ⟨_, rfl⟩
  obtain ⟨y1, hy1⟩ : ∃ z, z = y / 2147483648 := ⟨_, rfl⟩
  obtain ⟨y0, hy0⟩ : ∃ z, z = y % 2147483648 := ⟨_, rfl⟩
  rw [← hx1, ← hx0, ← hy1, ← hy0] at hxy
  have b1 : x1 ≤ 2147483647 ∧ x0 ≤ 2147483647 ∧ y1 ≤ 2147483647 ∧ y0 ≤ 2147483647 := by omega
  have m1 : x0 * y0 ≤ 2147483647 * 2147483647 := Nat.mul_le_mul b1.2.1 b1.2.2.2
  have m2 : x0 * y1 ≤ 2147483647 * 2147483647 := Nat.mul_le_mul b1.2.1 b1.2.2.1
  have m3 : x1 * y0 ≤ 2147483647 * 2147483647 := Nat.mul_le_mul b1.1 b1.2.2.2
  have m4 : x1 * y1 ≤ 2147483647 * 2147483647 := Nat.mul_le_mul b1.1 b1.2.2.1
  refine G.seqR tfine rfl trivial ?_
  refine G.seqR tfine rfl trivial ?_
  rw [wrapU x (by omega), wrapU y (by omega)]
  refine G.seqR tfine rfl trivial ?_
  rw [and31 x (by omega), and31 y (by omega), ← hx0, ← hy0, mulU x0 y0 (by omega)]
  refine G.seqR tfine rfl ⟨by decide, by decide, trivial⟩ ?_
  rw [and31 x (by omega), shr31, ← hx0, ← hy1, mulU x0 y1 (by omega), shr31, addU _ _ (by omega)]
  obtain ⟨lo, hlo⟩ : ∃ z, z = x0 * y0 := ⟨_, rfl⟩
  obtain ⟨mid, hmid⟩ : ∃ z, z = x0 * y1 + lo / 2147483648 := ⟨_, rfl⟩
  rw [← hlo, ← hmid]
  have hlo2 : lo ≤ 2147483647 * 2147483647 := by omega
  have hmid2 : mid ≤ 2147483647 * 2147483647 + 2147483647 := by omega
  refine G.seqR tfine rfl ⟨by decide, trivial⟩ ?_
  rw [shr31 x, and31 y (by omega), ← hx1, ← hy0, mulU x1 y0 (by omega), and31 mid (by omega), addU _ _ (by omega)]
  obtain ⟨oth, hoth⟩ : ∃ z, z = x1 * y0 + mid % 2147483648 := ⟨_, rfl⟩
  rw [← hoth]
  have hoth2 : oth ≤ 2147483647 * 2147483647 + 2147483647 := by omega
  refine G.seqR tfine rfl ⟨by decide, by decide, by decide, by decide, by decide, trivial⟩ ?_
  rw [shr31 x, shr31 y, ← hx1, ← hy1, mulU x1 y1 (by omega), shr31 mid, addU _ _ (by omega), shr31 oth, addU _ _ (by omega), and31 oth (by omega), shl31 _ (by omega), and31 lo (by omega), orN (oth % 2147483648) (lo % 2147483648) 31 (by omega) (by omega)]
  have e : x * y = (x1 * y1 + mid / 2147483648 + oth / 2147483648) * 4611686018427387904 + (oth % 2147483648 * 2 ^ 31 + lo % 2147483648) := by
    rw [hxy]
    obtain ⟨p, hp⟩ : ∃ z, z = x1 * y1 := ⟨_, rfl⟩
    obtain ⟨q, hq⟩ : ∃ z, z = x0 * y1 := ⟨_, rfl⟩
    obtain ⟨r, hr⟩ : ∃ z, z = x1 * y0 := ⟨_, rfl⟩
    rw [← hlo, ← hp, ← hq, ← hr]
    rw [← hq] at hmid
    rw [← hr] at hoth
    clear hxy m1 m2 m3 m4 hx hy b1 hx1 hx0 hy1 hy0 hp hq hr hlo
    omega
  have e1 : x * y / 4611686018427387904 = x1 * y1 + mid / 2147483648 + oth / 2147483648 := by rw [e]; omega
  have e2 : x * y % 4611686018427387904 = oth % 2147483648 * 2 ^ 31 + lo % 2147483648 := by rw [e]; omega
  rw [e1, e2]
  exact G.ret (endK.ret rfl rfl)
end Go.Proofs.Ytiicemgngccicaa
