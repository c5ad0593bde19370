/- Chapter 02: how many bits a word has. -/
import Derived.Test.YtiicemgngccicaaG
import Derived.Laws.MathBits
set_option linter.unusedVariables false
set_option linter.unusedSimpArgs false
set_option maxRecDepth 100000
namespace Go.Proofs.Ytiicemgngccicaa
open Go.Sx Go.RowKit
abbrev T8 : ByteArray := ⟨#[0, 1, 2, 2, 3, 3, 3, 3, 4, 4, 4, 4, 4, 4, 4, 4, 5, 5, 5, 5, 5, 5, 5, 5, 5, 5, 5, 5, 5, 5, 5, 5, 6, 6, 6, 6, 6, 6, 6, 6, 6, 6, 6, 6, 6, 6, 6, 6, 6, 6, 6, 6, 6, 6, 6, 6, 6, 6, 6, 6, 6, 6, 6, 6, 7, 7, 7, 7, 7, 7, 7, 7, 7, 7, 7, 7, 7, 7, 7, 7, 7, 7, 7, 7, 7, 7, 7, 7, 7, 7, 7, 7, 7, 7, 7, 7, 7, 7, 7, 7, 7, 7, 7, 7, 7, 7, 7, 7, 7, 7, 7, 7, 7, 7, 7, 7, 7, 7, 7, 7, 7, 7, 7, 7, 7, 7, 7, 7, 8, 8, 8, 8, 8, 8, 8, 8, 8, 8, 8, 8, 8, 8, 8, 8, 8, 8, 8, 8, 8, 8, 8, 8, 8, 8, 8, 8, 8, 8, 8, 8, 8, 8, 8, 8, 8, 8, 8, 8, 8, 8, 8, 8, 8, 8, 8, 8, 8, 8, 8, 8, 8, 8, 8, 8, 8, 8, 8, 8, 8, 8, 8, 8, 8, 8, 8, 8, 8, 8, 8, 8, 8, 8, 8, 8, 8, 8, 8, 8, 8, 8, 8, 8, 8, 8, 8, 8, 8, 8, 8, 8, 8, 8, 8, 8, 8, 8, 8, 8, 8, 8, 8, 8, 8, 8, 8, 8, 8, 8, 8, 8, 8, 8, 8, 8, 8, 8, 8, 8, 8, 8, 8, 8, 8, 8, 8, 8]⟩
theorem T8_at : ∀ i : Fin 256, strAt T8 i.val = bitLen i.val := by decide +kernel
theorem T8_size : T8.size = 256 := by decide +kernel
theorem shrN (n s : Nat) (hs : s ≤ 64) : ((n : Int).fdiv (2 ^ (min ((s : Nat) : Int).toNat IntKind.u64.bits))) = ((n / 2 ^ s : Nat) : Int) := by
  have : (2 : Int) ^ (min ((s : Nat) : Int).toNat IntKind.u64.bits) = ((2 ^ s : Nat) : Int) := by
    rw [Int.toNat_natCast, show IntKind.u64.bits = 64 from rfl, Nat.min_eq_left hs]; simp
  rw [this, Int.fdiv_eq_ediv_of_nonneg _ (Int.natCast_nonneg _), Int.natCast_ediv]
theorem len_step {x y n b : Nat} (h : bitLen x = n + bitLen y) (hy : 2 ^ b ≤ y) : bitLen x = (n + b) + bitLen (y / 2 ^ b) := by
  have h0 : y / 2 ^ b ≠ 0 := by
    have := Nat.div_pos hy (Nat.two_pow_pos b)
    omega
  rw [h, bitLen_shift y b h0]; omega
theorem len64_any (x : Nat) (hx : x < 18446744073709551616) (w : World) :
    Calls Try.prog 101 #[U x] w fun e w' => e = .returned (I (bitLen x : Nat)) ∧ Below w.heap.size w w' := by
  refine enterPlain tfine Try.func101 rfl 25 Try.ntmps101 [.c (.k (U x))] [] rfl rfl trivial ⟨trivial, trivial⟩ ?_
  refine G.seqR tfine rfl trivial ?_
  refine G.join (fun z : Nat × Nat => St.of [(0, .v (.c (.k (U z.1)))), (2, .v (.c (.k (I z.2))))] []) (fun z => bitLen x = z.2 + bitLen z.1 ∧ z.1 < 4294967296 ∧ z.2 ≤ 32) ?_ ?_
  · refine G.seqR tfine rfl trivial ?_
    refine G.cond rfl (fun h => ?_) (fun h => ?_)
    · have h := of_decide_eq_true h
      refine G.seqR tfine rfl ⟨by decide, trivial⟩ ?_
      rw [shr32]
      refine G.reg tfine rfl trivial ?_
      exact ⟨(x / 4294967296, 32), ⟨by have := len_step (x := x) (y := x) (n := 0) (b := 32) (by simp) (by omega); simpa using this, by show x / 4294967296 < _; omega, by show (32 : Nat) ≤ 32; omega⟩, St.le_of rfl trivial ⟨rfl, rfl, trivial⟩⟩
    · have h := of_decide_eq_false h
      exact G.skip ⟨(x, 0), ⟨by simp, by show x < _; omega, by show (0 : Nat) ≤ 32; omega⟩, St.le_of rfl trivial ⟨rfl, rfl, trivial⟩⟩
  rintro ⟨y, n⟩ ⟨h1, h2, h3⟩
  simp only at h1 h2 h3
  refine G.join (fun z : Nat × Nat => St.of [(0, .v (.c (.k (U z.1)))), (2, .v (.c (.k (I z.2))))] []) (fun z => bitLen x = z.2 + bitLen z.1 ∧ z.1 < 65536 ∧ z.2 ≤ 48) ?_ ?_
  · refine G.seqR tfine rfl trivial ?_
    refine G.cond rfl (fun h => ?_) (fun h => ?_)
    · have h := of_decide_eq_true h
      refine G.seqR tfine rfl ⟨by decide, trivial⟩ ?_
      rw [show (16 : Int) = ((16 : Nat) : Int) from rfl, shrN y 16 (by decide)]
      refine G.reg tfine rfl trivial ?_
      rw [IntWalk.i64_in _ (by omega)]
      exact ⟨(y / 2 ^ 16, n + 16), ⟨len_step h1 (by omega), by show y / 2 ^ 16 < _; omega, by show n + 16 ≤ 48; omega⟩, St.le_of rfl trivial ⟨rfl, rfl, trivial⟩⟩
    · have h := of_decide_eq_false h
      exact G.skip ⟨(y, n), ⟨h1, by show y < _; omega, by show n ≤ 48; omega⟩, St.le_of rfl trivial ⟨rfl, rfl, trivial⟩⟩
  rintro ⟨y, n⟩ ⟨h1, h2, h3⟩
  simp only at h1 h2 h3
  refine G.join (fun z : Nat × Nat => St.of [(0, .v (.c (.k (U z.1)))), (2, .v (.c (.k (I z.2))))] []) (fun z => bitLen x = z.2 + bitLen z.1 ∧ z.1 < 256 ∧ z.2 ≤ 56) ?_ ?_
  · refine G.seqR tfine rfl trivial ?_
    refine G.cond rfl (fun h => ?_) (fun h => ?_)
    · have h := of_decide_eq_true h
      refine G.seqR tfine rfl ⟨by decide, trivial⟩ ?_
      rw [show (8 : Int) = ((8 : Nat) : Int) from rfl, shrN y 8 (by decide)]
      refine G.reg tfine rfl trivial ?_
      rw [IntWalk.i64_in _ (by omega)]
      exact ⟨(y / 2 ^ 8, n + 8), ⟨len_step h1 (by omega), by show y / 2 ^ 8 < _; omega, by show n + 8 ≤ 56; omega⟩, St.le_of rfl trivial ⟨rfl, rfl, trivial⟩⟩
    · have h := of_decide_eq_false h
      exact G.skip ⟨(y, n), ⟨h1, by show y < _; omega, by show n ≤ 56; omega⟩, St.le_of rfl trivial ⟨rfl, rfl, trivial⟩⟩
  rintro ⟨y, n⟩ ⟨h1, h2, h3⟩
  simp only at h1 h2 h3
  refine G.seqR tfine rfl ?_ ?_
  · have e1 : IntKind.u8.wrap (y : Int) = (y : Int) := IntWalk.u8_in _ (by omega)
    show 0 ≤ IntKind.u8.wrap (y : Int) ∧ IntKind.u8.wrap (y : Int) < ((T8.size : Nat) : Int) ∧ True
    rw [e1, T8_size]
    exact ⟨by omega, by omega, trivial⟩
  refine G.ret (endK.ret rfl ?_)
  show Value.int .i64 (IntKind.i64.wrap ((n : Int) + IntKind.i64.wrap ((strAt T8 (IntKind.u8.wrap (y : Int)).toNat : Nat) : Int))) = _
  have e1 : IntKind.u8.wrap (y : Int) = (y : Int) := IntWalk.u8_in _ (by omega)
  have e2 : strAt T8 y = bitLen y := T8_at ⟨y, h2⟩
  have e3 := bitLen_le8 y h2
  rw [e1, Int.toNat_natCast, e2, IntWalk.i64_in ((bitLen y : Nat) : Int) (by omega), IntWalk.i64_in _ (by omega), h1]
  simp
theorem lead_any (x : Nat) (hx : x < 18446744073709551616) (w : World) :
    Calls Try.prog 92 #[U x] w fun e w' => e = .returned (I (64 - bitLen x : Int)) ∧ Below w.heap.size w w' := by
  refine enterPlain tfine Try.func92 rfl 6 Try.ntmps92 [.c (.k (U x))] [] rfl rfl trivial ⟨trivial, trivial⟩ ?_
  refine G.seqR tfine rfl trivial ?_
  refine G.seqC tfine rfl trivial ?_
  refine GO.callPlain rfl rfl rfl rfl (fun args w => Try.call101 args w) (fun ρ w hm _ => len64_any x hx w) ?_
  refine GO.fin tfine rfl trivial ?_
  refine G.ret (endK.ret rfl ?_)
  have h : bitLen x ≤ 64 := by
    unfold bitLen
    split
    · omega
    · rename_i h0
      have := (Nat.log2_lt h0).2 (show x < 2 ^ 64 by omega)
      omega
  rw [IntWalk.i64_in _ (by omega)]
end Go.Proofs.Ytiicemgngccicaa
