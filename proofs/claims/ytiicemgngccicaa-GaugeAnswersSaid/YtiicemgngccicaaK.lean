/- Chapter 02: the copy of a row. -/
import Derived.Test.YtiicemgngccicaaE
import Derived.Test.YtiicemgngccicaaSxO
set_option linter.unusedVariables false
set_option linter.unusedSimpArgs false
namespace Go.Proofs.Ytiicemgngccicaa
open Go.Sx Go.RowKit
theorem info3 : (Try.prog.info? 3).map (fun i => (i.zero, i.size, i.bytes)) = some (some (.int .i64 0), 1, 8) := by kernel_rfl
theorem apT35 : ApT Try.prog 90 3 1 8 (.int .i64 0) := ⟨Try.underlying90, info3, rfl, by decide⟩
end Go.Proofs.Ytiicemgngccicaa
