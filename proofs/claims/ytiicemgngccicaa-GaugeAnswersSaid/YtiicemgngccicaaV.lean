/- Chapter 02: the reference's comparison and difference of wide numbers. -/
import Derived.Test.YtiicemgngccicaaT
set_option linter.unusedVariables false
set_option linter.unusedSimpArgs false
namespace Go.Proofs.Ytiicemgngccicaa
open Go.Sx Go.RowKit
theorem less_any (a b : Nat) (w : World) :
    Calls Try.prog 99 #[.agg #[U (a / 4611686018427387904 : Nat), U (a % 4611686018427387904 : Nat)], .agg #[U (b / 4611686018427387904 : Nat), U (b % 4611686018427387904 : Nat)]] w fun e w' => e = .returned (.bool (decide (a < b))) ∧ Below w.heap.size w w' := by
  refine enterPlain tfine Try.func99 rfl 24 Try.ntmps99 [.agg [.k (U (a / 4611686018427387904 : Nat)), .k (U (a % 4611686018427387904 : Nat))], .agg [.k (U (b / 4611686018427387904 : Nat)), .k (U (b % 4611686018427387904 : Nat))]] [] rfl rfl trivial ⟨⟨trivial, trivial, trivial⟩, ⟨trivial, trivial, trivial⟩, trivial⟩ ?_
  refine G.seqR tfine rfl trivial ?_
  refine G.seqR tfine rfl ?_ ?_
  · simp [AllP, condB]
    try (intros; and_intros <;> assumption)
  refine G.ret (endK.ret rfl (vb ?_))
  rw [Bool.eq_iff_iff]
  simp
  omega
theorem minus_any (a b : Nat) (h : b ≤ a) (ha : a < 4611686018427387904 * 4611686018427387904) (w : World) :
    Calls Try.prog 100 #[.agg #[U (a / 4611686018427387904 : Nat), U (a % 4611686018427387904 : Nat)], .agg #[U (b / 4611686018427387904 : Nat), U (b % 4611686018427387904 : Nat)]] w fun e w' => e = .returned (.agg #[U ((a - b) / 4611686018427387904 : Nat), U ((a - b) % 4611686018427387904 : Nat)]) ∧ Below w.heap.size w w' := by
  refine enterPlain tfine Try.func100 rfl 34 Try.ntmps100 [.agg [.k (U (a / 4611686018427387904 : Nat)), .k (U (a % 4611686018427387904 : Nat))], .agg [.k (U (b / 4611686018427387904 : Nat)), .k (U (b % 4611686018427387904 : Nat))]] [] rfl rfl trivial ⟨⟨trivial, trivial, trivial⟩, ⟨trivial, trivial, trivial⟩, trivial⟩ ?_
  refine G.seqR tfine rfl trivial ?_
  refine G.seq (G.seqR tfine rfl trivial ?_)
  refine G.cond rfl (fun h1 => ?_) (fun h1 => ?_)
  · have h1 := of_decide_eq_true h1
    refine G.seqR tfine rfl trivial ?_
    refine G.ret (endK.ret rfl ?_)
    have e1 : IntKind.u64.wrap (IntKind.u64.wrap (((a / 4611686018427387904 : Nat) : Int) - ((b / 4611686018427387904 : Nat) : Int)) - 1) = (((a - b) / 4611686018427387904 : Nat) : Int) := by
      simp only [IntKind.wrap_u64]; omega
    have e2 : IntKind.u64.wrap (IntKind.u64.wrap (((a % 4611686018427387904 : Nat) : Int) + 4611686018427387904) - ((b % 4611686018427387904 : Nat) : Int)) = (((a - b) % 4611686018427387904 : Nat) : Int) := by
      simp only [IntKind.wrap_u64]; omega
    rw [e1, e2]
  · have h1 := of_decide_eq_false h1
    refine G.skip ?_
    refine G.seqR tfine rfl trivial ?_
    refine G.ret (endK.ret rfl ?_)
    have e1 : IntKind.u64.wrap (((a / 4611686018427387904 : Nat) : Int) - ((b / 4611686018427387904 : Nat) : Int)) = (((a - b) / 4611686018427387904 : Nat) : Int) := by
      simp only [IntKind.wrap_u64]; omega
    have e2 : IntKind.u64.wrap (((a % 4611686018427387904 : Nat) : Int) - ((b % 4611686018427387904 : Nat) : Int)) = (((a - b) % 4611686018427387904 : Nat) : Int) := by
      simp only [IntKind.wrap_u64]; omega
    rw [e1, e2]
end Go.Proofs.Ytiicemgngccicaa
