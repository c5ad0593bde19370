/- Chapter 02: the product of two words, and the quotient of two words whose first is nothing. -/
import Derived.Test.YtiicemgngccicaaF
import Derived.Lib.Mul64
set_option linter.unusedVariables false
set_option linter.unusedSimpArgs false
namespace Go.Proofs.Ytiicemgngccicaa
open Go.Sx Go.RowKit
abbrev U (n : Int) : Value := .int .u64 n
theorem andLow (n : Nat) (h : n < 18446744073709551616) : bitsOp .and .u64 (n : Int) 4294967295 = ((n % 4294967296 : Nat) : Int) := by
  show IntKind.u64.wrap (((BitVec.ofInt 64 (n : Int) &&& BitVec.ofInt 64 4294967295).toNat : Nat) : Int) = _
  rw [BitVec.ofInt_natCast, show BitVec.ofInt 64 4294967295 = BitVec.ofNat 64 4294967295 from rfl, BitVec.toNat_and, BitVec.toNat_ofNat, BitVec.toNat_ofNat, Nat.mod_eq_of_lt (show n < 2 ^ 64 by omega), show 4294967295 % 2 ^ 64 = 2 ^ 32 - 1 by rfl, Nat.and_two_pow_sub_one_eq_mod]
  rw [IntKind.wrap_u64]; omega
theorem shr32 (n : Nat) : ((n : Int).fdiv (2 ^ (min (32 : Int).toNat IntKind.u64.bits))) = ((n / 4294967296 : Nat) : Int) := by
  have : (2 : Int) ^ (min (32 : Int).toNat IntKind.u64.bits) = 4294967296 := rfl
  rw [this, Int.fdiv_eq_ediv_of_nonneg _ (by decide)]
  omega
theorem wrapU (n : Nat) (h : n < 18446744073709551616) : IntKind.u64.wrap (n : Int) = (n : Int) := by rw [IntKind.wrap_u64]; omega
theorem mulU (a b : Nat) (h : a * b < 18446744073709551616) : IntKind.u64.wrap ((a : Int) * (b : Int)) = ((a * b : Nat) : Int) := by rw [← Int.natCast_mul, wrapU _ h]
theorem mulW (a b : Nat) : IntKind.u64.wrap ((a : Int) * (b : Int)) = ((a * b % 18446744073709551616 : Nat) : Int) := by rw [← Int.natCast_mul, IntKind.wrap_u64]; omega
theorem addU (a b : Nat) (h : a + b < 18446744073709551616) : IntKind.u64.wrap ((a : Int) + (b : Int)) = ((a + b : Nat) : Int) := by rw [← Int.natCast_add, wrapU _ h]
theorem mul64_any (x y : Nat) (hx : x < 18446744073709551616) (hy : y < 18446744073709551616) (w : World) :
    Calls Try.prog 91 #[U x, U y] w fun e w' => e = .returned (.tuple #[U (x * y / 18446744073709551616 : Nat), U (x * y % 18446744073709551616 : Nat)]) ∧ Below w.heap.size w w' := by
  obtain ⟨h1, h2, h3, h4⟩ := Go.Lib.mul64_hi x y hx hy
  have hbx : x % 4294967296 ≤ 4294967295 := by omega
  have hby : y % 4294967296 ≤ 4294967295 := by omega
  have ha := Go.Lib.half_mul_le (a := x / 4294967296) (b := y / 4294967296) (by omega) (by omega)
  have hb := Go.Lib.half_mul_le (a := x / 4294967296) (b := y % 4294967296) (by omega) (by omega)
  have hc := Go.Lib.half_mul_le (a := x % 4294967296) (b := y / 4294967296) (by omega) (by omega)
  refine enterPlain tfine Try.func91 rfl 51 Try.ntmps91 [.c (.k (U x)), .c (.k (U y))] [] rfl rfl trivial ⟨trivial, trivial, trivial⟩ ?_
  refine G.seqR tfine rfl trivial ?_
  refine G.seqR tfine rfl trivial ?_
  rw [andLow x hx]
  refine G.seqR tfine rfl ⟨by decide, trivial⟩ ?_
  rw [shr32]
  refine G.seqR tfine rfl trivial ?_
  rw [andLow y hy]
  refine G.seqR tfine rfl ⟨by decide, trivial⟩ ?_
  rw [shr32]
  refine G.seqR tfine rfl trivial ?_
  rw [mulU _ _ h1]
  refine G.seqR tfine rfl ⟨by decide, trivial⟩ ?_
  rw [mulU _ _ (by omega), shr32, addU _ _ h2]
  refine G.seqR tfine rfl trivial ?_
  rw [andLow _ h2]
  refine G.seqR tfine rfl ⟨by decide, trivial⟩ ?_
  rw [shr32]
  refine G.seqR tfine rfl trivial ?_
  rw [mulU _ _ (by omega), addU _ _ h3]
  refine G.seqR tfine rfl ⟨by decide, trivial⟩ ?_
  rw [mulU _ _ (by omega), shr32, addU _ _ (by omega), addU _ _ (by rw [h4]; exact Nat.div_lt_of_lt_mul (Nat.mul_lt_mul'' hx hy)), h4]
  refine G.seqR tfine rfl trivial ?_
  rw [mulW]
  exact G.ret (endK.ret rfl rfl)
theorem div64_low (y d : Nat) (hy : y < 18446744073709551616) (hd : 0 < d ∧ d < 18446744073709551616) (w : World) :
    Calls Try.prog 84 #[U 0, U y, U d] w fun e w' => e = .returned (.tuple #[U (y / d : Nat), U (y % d : Nat)]) ∧ Below w.heap.size w w' := by
  refine enterPlain tfine Try.func84 rfl 135 Try.ntmps84 [.c (.k (U 0)), .c (.k (U y)), .c (.k (U d))] [] rfl rfl trivial ⟨trivial, trivial, trivial, trivial⟩ ?_
  refine G.seqR tfine rfl trivial ?_
  refine G.seq (G.seqR tfine rfl trivial ?_)
  have h1 : ((d : Int) == 0) = false := by simp; omega
  rw [h1]
  refine G.cond_false rfl (G.skip ?_)
  refine G.seq (G.seqR tfine rfl trivial ?_)
  have h2 : decide ((d : Int) ≤ 0) = false := by simp; omega
  rw [h2]
  refine G.cond_false rfl (G.skip ?_)
  refine G.seq (G.seqR tfine rfl trivial ?_)
  refine G.cond_true rfl ?_
  refine G.seqD tfine hmix [0, 0, 3, 0, 0, 24, 7, 127] [] rfl rfl rfl rfl ⟨by omega, by omega, trivial⟩ ?_
  refine G.ret (endK.ret rfl ?_)
  have h3 : IntKind.u64.wrap ((y : Int).tdiv (d : Int)) = ((y / d : Nat) : Int) := by
    rw [← Int.ofNat_tdiv, wrapU]
    exact Nat.lt_of_le_of_lt (Nat.div_le_self _ _) hy
  rw [h3, ← Int.ofNat_tmod]
end Go.Proofs.Ytiicemgngccicaa
