/- Chapter 05: program and reference correct alike. -/
import Derived.Test.YtbgbndiokckboaaThE
set_option linter.unusedVariables false
namespace Go.Proofs.Ytbgbndiokckboaa
open Go.Sx Go.RowKit
theorem thermalCorrects_walk (v r h k : Int) (w : World) : Calls Try.prog 3 #[I v, I r, I h, I k] w fun e w' => e = .returned (.bool true) ∧ Below w.heap.size w w' := by
  have := spilelaw05_ThermalCorrects_any v r h k w
  rwa [show spilelaw05_ThermalCorrects v r h k = true by
    unfold spilelaw05_ThermalCorrects
    rw [factor_eq, at_eq, to20_eq]
    simp] at this
end Go.Proofs.Ytbgbndiokckboaa
