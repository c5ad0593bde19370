/- Chapter 05: three walks that return true. -/
import Derived.Test.YtbgbndiokckboaaThG
set_option linter.unusedVariables false
namespace Go.Proofs.Ytbgbndiokckboaa
open Go.Sx Go.RowKit
theorem thermalBack_walk (v r h k : Int) (w : World) : Calls Try.prog 4 #[I v, I r, I h, I k] w fun e w' => e = .returned (.bool true) ∧ Below w.heap.size w w' := by
  have := spilelaw05_ThermalBack_any v r h k w
  rwa [back_true] at this
theorem thermalOrder_walk (v more r s t k : Int) (w : World) : Calls Try.prog 5 #[I v, I more, I r, .agg #[I s, I t], I k] w fun e w' => e = .returned (.bool true) ∧ Below w.heap.size w w' := by
  have := spilelaw05_ThermalOrder_any v more r s t k w
  rwa [order_true] at this
theorem u8_bd {n : Int} (h : (Lit.int .u8 n).wf = true) : 0 ≤ n ∧ n ≤ 255 := by
  have h : (decide (IntKind.u8.min ≤ n) && decide (n ≤ IntKind.u8.max)) = true := h
  rw [Bool.and_eq_true] at h
  exact ⟨of_decide_eq_true h.1, of_decide_eq_true h.2⟩
theorem thermalContains_walk (a b s t r p q : Int) (hp : (Lit.int .u8 p).wf = true) (hq : (Lit.int .u8 q).wf = true) (k : Int) (w : World) : Calls Try.prog 6 #[.agg #[I a, I b], .agg #[I s, I t], I r, .agg #[.int .u8 p, .int .u8 q], I k] w fun e w' => e = .returned (.bool true) ∧ Below w.heap.size w w' := by
  have := spilelaw05_ThermalContains_any a b s t r p q k w
  rwa [contains_true a b s t r p q k (u8_bd hp) (u8_bd hq)] at this
end Go.Proofs.Ytbgbndiokckboaa
