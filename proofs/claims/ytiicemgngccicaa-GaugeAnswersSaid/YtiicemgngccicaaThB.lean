/- Chapter 05: the mean. -/
import Derived.Test.YtiicemgngccicaaThA
set_option linter.unusedVariables false
set_option linter.unusedSimpArgs false
set_option maxRecDepth 8000
namespace Go.Proofs.Ytiicemgngccicaa
open Go.Sx Go.RowKit
def cold (t : Int) : Bool := !thermal_heat t
theorem cold_false {l : List Int} (h : l.any cold = false) : ∀ x ∈ l, -400 ≤ x ∧ x ≤ 600 := by
  intro x hx
  have := List.any_eq_false.1 h x hx
  simpa [cold, thermal_heat] using this
theorem sum_all {l : List Int} (h : ∀ x ∈ l, -400 ≤ x ∧ x ≤ 600) (hm : l.length ≤ 64) (k : Nat) : -64000 ≤ (l.take k).sum ∧ (l.take k).sum ≤ 64000 := by
  have hb := sum_bound id 1000 (l.take k) fun x hx => by have := h x (List.mem_of_mem_take hx); show -1000 ≤ x ∧ x ≤ 1000; omega
  rw [List.map_id] at hb
  have hl : (l.take k).length ≤ 64 := by simp; omega
  omega
theorem take_sum (l : List Int) (k : Nat) (h : k < l.length) : (l.take (k + 1)).sum = (l.take k).sum + l.getD k 0 := by
  have := sum_take id l k h
  rw [List.map_id, List.map_id] at this
  exact this
def mean2 (l : List Int) (rule : Int) : Int × Int := if (!isB rule) = true then (0, 1) else if ((l.length : Int) == 0) = true then (0, 9) else if decide ((l.length : Int) > 64) = true then (0, 8) else if l.any cold = true then (0, 2) else ((quo3 l.sum l.length rule).1, (quo3 l.sum l.length rule).2.2)
end Go.Proofs.Ytiicemgngccicaa
