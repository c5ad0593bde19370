/-
  No cell of these rows narrows 'for every input' (looked for: loops, veiled, ifaces, maps, wideKeys, modest, calm, conditions, laid).
  DERIVED. THE GIVEN ROWS OF THIS SEAT. 6 by the template 'for every input the law returns true; each argument reads behind the call as it read before'; 0 by the template 'total and deterministic' (their statements: YtbgbndiokckboaaTotals.lean).
  GIVEN WITH THE SEED: the statements are not yours to turn. If you find one false, say at which input.
  Laid BY PROGRAM, IN A SANDBOX (cutbox-rows.mjs): the forced cells as the released guide's own fill.sh prints them over the translation 90fec3be213c9c76… (all of the seat's roots in one cut). By AI agents, Wed Nov 11 2026. No macro, syntax, notation, axiom, sorry.
-/
import Derived.Test.YtbgbndiokckboaaChecked
import GoSem.Claim
import GoSem.ClaimJoined
import GoSem.ClaimMapViews
import Derived.JoinedTies
import Derived.KernelRfl
namespace Go.Proofs.Ytbgbndiokckboaa
/- THE CELL 'sum', in the pinned program and in every row, IS THE sha256 OF THE DUMP (.gsa) THAT YtbgbndiokckboaaProg.lean LOADS. Nothing in Lean hashes anything: it is a label: what it is worth is what the hold of that sum in a sandbox is worth. -/
noncomputable def Try.pinned : Pinned := { name := "ytbgbndiokckboaa", sum := "90fec3be213c9c76fab7aa1f91ce3b029cd564d66081e6de489bbb678561b79e", checked := Try.checked }
namespace Rows
def none {H : Type} : Left H := { results := [], args := [] }

/-- 'spilelaw05.ThermalCorrects': WHATEVER THE INPUT: true; the input reads as it did. -/
def thermalCorrectsSpec : ChangeSpec := { name := "thermalCorrects", fn := fun _ => fun
  | [d1, d2, d3, d4] => { results := [.lit (.bool true)], args := [d1, d2, d3, d4] }
  | _ => none }
def thermalCorrectsRow : OpenClaim := { program := "ytbgbndiokckboaa", sum := "90fec3be213c9c76fab7aa1f91ce3b029cd564d66081e6de489bbb678561b79e", func := "spile/spilelaw05.ThermalCorrects", spec := "thermalCorrects", unfollowed := true, recurses := true, named := ["math/bits.divideError", "math/bits.overflowError"], apart := false }
def ThermalCorrectsSaid : Prop := thermalCorrectsRow.holds Try.pinned (OpenSpec.ofChange thermalCorrectsSpec)

/-- ITS FALSE NEIGHBOUR: 'it returns false'. Refute it at one input. -/
def thermalCorrectsWrong : ChangeSpec := { name := "thermalCorrects", fn := fun _ => fun
  | [d1, d2, d3, d4] => { results := [.lit (.bool false)], args := [d1, d2, d3, d4] }
  | _ => none }
def ThermalCorrectsWrongFalsely : Prop := thermalCorrectsRow.holds Try.pinned (OpenSpec.ofChange thermalCorrectsWrong)

/-- 'spilelaw05.ThermalBack': WHATEVER THE INPUT: true; the input reads as it did. -/
def thermalBackSpec : ChangeSpec := { name := "thermalBack", fn := fun _ => fun
  | [d1, d2, d3, d4] => { results := [.lit (.bool true)], args := [d1, d2, d3, d4] }
  | _ => none }
def thermalBackRow : OpenClaim := { program := "ytbgbndiokckboaa", sum := "90fec3be213c9c76fab7aa1f91ce3b029cd564d66081e6de489bbb678561b79e", func := "spile/spilelaw05.ThermalBack", spec := "thermalBack", unfollowed := true, recurses := true, named := ["math/bits.divideError", "math/bits.overflowError"], apart := false }
def ThermalBackSaid : Prop := thermalBackRow.holds Try.pinned (OpenSpec.ofChange thermalBackSpec)

/-- ITS FALSE NEIGHBOUR: 'it returns false'. Refute it at one input. -/
def thermalBackWrong : ChangeSpec := { name := "thermalBack", fn := fun _ => fun
  | [d1, d2, d3, d4] => { results := [.lit (.bool false)], args := [d1, d2, d3, d4] }
  | _ => none }
def ThermalBackWrongFalsely : Prop := thermalBackRow.holds Try.pinned (OpenSpec.ofChange thermalBackWrong)

/-- 'spilelaw05.ThermalOrder': WHATEVER THE INPUT: true; the input reads as it did. -/
def thermalOrderSpec : ChangeSpec := { name := "thermalOrder", fn := fun _ => fun
  | [d1, d2, d3, d4, d5] => { results := [.lit (.bool true)], args := [d1, d2, d3, d4, d5] }
  | _ => none }
def thermalOrderRow : OpenClaim := { program := "ytbgbndiokckboaa", sum := "90fec3be213c9c76fab7aa1f91ce3b029cd564d66081e6de489bbb678561b79e", func := "spile/spilelaw05.ThermalOrder", spec := "thermalOrder", unfollowed := true, recurses := true, named := ["math/bits.divideError", "math/bits.overflowError"], apart := false }
def ThermalOrderSaid : Prop := thermalOrderRow.holds Try.pinned (OpenSpec.ofChange thermalOrderSpec)

/-- ITS FALSE NEIGHBOUR: 'it returns false'. Refute it at one input. -/
def thermalOrderWrong : ChangeSpec := { name := "thermalOrder", fn := fun _ => fun
  | [d1, d2, d3, d4, d5] => { results := [.lit (.bool false)], args := [d1, d2, d3, d4, d5] }
  | _ => none }
def ThermalOrderWrongFalsely : Prop := thermalOrderRow.holds Try.pinned (OpenSpec.ofChange thermalOrderWrong)

/-- 'spilelaw05.ThermalContains': WHATEVER THE INPUT: true; the input reads as it did. -/
def thermalContainsSpec : ChangeSpec := { name := "thermalContains", fn := fun _ => fun
  | [d1, d2, d3, d4, d5] => { results := [.lit (.bool true)], args := [d1, d2, d3, d4, d5] }
  | _ => none }
def thermalContainsRow : OpenClaim := { program := "ytbgbndiokckboaa", sum := "90fec3be213c9c76fab7aa1f91ce3b029cd564d66081e6de489bbb678561b79e", func := "spile/spilelaw05.ThermalContains", spec := "thermalContains", unfollowed := true, recurses := true, named := ["math/bits.divideError", "math/bits.overflowError"], apart := false }
def ThermalContainsSaid : Prop := thermalContainsRow.holds Try.pinned (OpenSpec.ofChange thermalContainsSpec)

/-- ITS FALSE NEIGHBOUR: 'it returns false'. Refute it at one input. -/
def thermalContainsWrong : ChangeSpec := { name := "thermalContains", fn := fun _ => fun
  | [d1, d2, d3, d4, d5] => { results := [.lit (.bool false)], args := [d1, d2, d3, d4, d5] }
  | _ => none }
def ThermalContainsWrongFalsely : Prop := thermalContainsRow.holds Try.pinned (OpenSpec.ofChange thermalContainsWrong)

/-- 'spilelaw05.ThermalBounds': WHATEVER THE INPUT: true; the input reads as it did. -/
def thermalBoundsSpec : ChangeSpec := { name := "thermalBounds", fn := fun _ => fun
  | [d1, d2, d3, d4, d5] => { results := [.lit (.bool true)], args := [d1, d2, d3, d4, d5] }
  | _ => none }
def thermalBoundsRow : OpenClaim := { program := "ytbgbndiokckboaa", sum := "90fec3be213c9c76fab7aa1f91ce3b029cd564d66081e6de489bbb678561b79e", func := "spile/spilelaw05.ThermalBounds", spec := "thermalBounds", unfollowed := true, recurses := true, named := ["math/bits.divideError", "math/bits.overflowError"], apart := false }
def ThermalBoundsSaid : Prop := thermalBoundsRow.holds Try.pinned (OpenSpec.ofChange thermalBoundsSpec)

/-- ITS FALSE NEIGHBOUR: 'it returns false'. Refute it at one input. -/
def thermalBoundsWrong : ChangeSpec := { name := "thermalBounds", fn := fun _ => fun
  | [d1, d2, d3, d4, d5] => { results := [.lit (.bool false)], args := [d1, d2, d3, d4, d5] }
  | _ => none }
def ThermalBoundsWrongFalsely : Prop := thermalBoundsRow.holds Try.pinned (OpenSpec.ofChange thermalBoundsWrong)

/-- 'spilelaw05.ThermalMeans': WHATEVER THE INPUT: true; the input reads as it did. -/
def thermalMeansSpec : ChangeSpec := { name := "thermalMeans", fn := fun _ => fun
  | [d1, d2] => { results := [.lit (.bool true)], args := [d1, d2] }
  | _ => none }
def thermalMeansRow : OpenClaim := { program := "ytbgbndiokckboaa", sum := "90fec3be213c9c76fab7aa1f91ce3b029cd564d66081e6de489bbb678561b79e", func := "spile/spilelaw05.ThermalMeans", spec := "thermalMeans", unfollowed := true, recurses := true, named := ["math/bits.divideError", "math/bits.overflowError"], apart := false }
def ThermalMeansSaid : Prop := thermalMeansRow.holds Try.pinned (OpenSpec.ofChange thermalMeansSpec)

/-- ITS FALSE NEIGHBOUR: 'it returns false'. Refute it at one input. -/
def thermalMeansWrong : ChangeSpec := { name := "thermalMeans", fn := fun _ => fun
  | [d1, d2] => { results := [.lit (.bool false)], args := [d1, d2] }
  | _ => none }
def ThermalMeansWrongFalsely : Prop := thermalMeansRow.holds Try.pinned (OpenSpec.ofChange thermalMeansWrong)

/- THE SECOND FORM. 'bulk': how many values and letters a reading holds, each counted each time it is reached (what is shared counts as often as it is met; a slice's spare places count too). A statement '..UptoSaid' is the law's where the arguments, and the package variables that the reading takes, are together of bulk at most 1048576: NARROWER than '..Said'. Prove '..Said' where nothing that the law and all that it calls make is longer than what came in: it says more and counts as full. Else prove '..UptoSaid'. A law counts once. -/
mutual
def uptoBulk {H : Type} : DataW H → Nat
  | .lit (.string bytes) => bytes.length + 1
  | .lit _ => 1
  | .nil => 1
  | .ptr d => uptoBulk d + 1
  | .slice elems spare => uptoBulkAll elems + uptoBulkAll spare + 1
  | .agg parts => uptoBulkAll parts + 1
  | .iface _ d => uptoBulk d + 1
  | .map entries => uptoBulkEntries entries + 1
  | .held _ => 1
def uptoBulkAll {H : Type} : List (DataW H) → Nat
  | [] => 0
  | d :: r => uptoBulk d + uptoBulkAll r
def uptoBulkEntries {H : Type} : List (Lit × DataW H) → Nat
  | [] => 0
  | x :: r => uptoBulkEntry x + uptoBulkEntries r
def uptoBulkEntry {H : Type} : Lit × DataW H → Nat
  | (.string bytes, d) => bytes.length + uptoBulk d + 1
  | (_, d) => uptoBulk d + 1
 end
def uptoSmall : (H : Type) → List (DataW H) → Bool := fun _ ds => decide (uptoBulkAll ds ≤ 1048576)
def OpenSpec.upto (s : _root_.Go.ChangeSpec) : _root_.Go.OpenSpec := { _root_.Go.OpenSpec.ofChange s with cond := some uptoSmall }

/-- 'spilelaw05.ThermalCorrects', WHERE WHAT IT READS IS OF BULK AT MOST 1048576: true; the input reads as it did. -/
def thermalCorrectsUptoRow : OpenClaim := { program := "ytbgbndiokckboaa", sum := "90fec3be213c9c76fab7aa1f91ce3b029cd564d66081e6de489bbb678561b79e", func := "spile/spilelaw05.ThermalCorrects", spec := "thermalCorrects", unfollowed := true, recurses := true, named := ["math/bits.divideError", "math/bits.overflowError"], apart := false, narrowed := true }
def ThermalCorrectsUptoSaid : Prop := thermalCorrectsUptoRow.holds Try.pinned (OpenSpec.upto thermalCorrectsSpec)

/-- 'spilelaw05.ThermalBack', WHERE WHAT IT READS IS OF BULK AT MOST 1048576: true; the input reads as it did. -/
def thermalBackUptoRow : OpenClaim := { program := "ytbgbndiokckboaa", sum := "90fec3be213c9c76fab7aa1f91ce3b029cd564d66081e6de489bbb678561b79e", func := "spile/spilelaw05.ThermalBack", spec := "thermalBack", unfollowed := true, recurses := true, named := ["math/bits.divideError", "math/bits.overflowError"], apart := false, narrowed := true }
def ThermalBackUptoSaid : Prop := thermalBackUptoRow.holds Try.pinned (OpenSpec.upto thermalBackSpec)

/-- 'spilelaw05.ThermalOrder', WHERE WHAT IT READS IS OF BULK AT MOST 1048576: true; the input reads as it did. -/
def thermalOrderUptoRow : OpenClaim := { program := "ytbgbndiokckboaa", sum := "90fec3be213c9c76fab7aa1f91ce3b029cd564d66081e6de489bbb678561b79e", func := "spile/spilelaw05.ThermalOrder", spec := "thermalOrder", unfollowed := true, recurses := true, named := ["math/bits.divideError", "math/bits.overflowError"], apart := false, narrowed := true }
def ThermalOrderUptoSaid : Prop := thermalOrderUptoRow.holds Try.pinned (OpenSpec.upto thermalOrderSpec)

/-- 'spilelaw05.ThermalContains', WHERE WHAT IT READS IS OF BULK AT MOST 1048576: true; the input reads as it did. -/
def thermalContainsUptoRow : OpenClaim := { program := "ytbgbndiokckboaa", sum := "90fec3be213c9c76fab7aa1f91ce3b029cd564d66081e6de489bbb678561b79e", func := "spile/spilelaw05.ThermalContains", spec := "thermalContains", unfollowed := true, recurses := true, named := ["math/bits.divideError", "math/bits.overflowError"], apart := false, narrowed := true }
def ThermalContainsUptoSaid : Prop := thermalContainsUptoRow.holds Try.pinned (OpenSpec.upto thermalContainsSpec)

/-- 'spilelaw05.ThermalBounds', WHERE WHAT IT READS IS OF BULK AT MOST 1048576: true; the input reads as it did. -/
def thermalBoundsUptoRow : OpenClaim := { program := "ytbgbndiokckboaa", sum := "90fec3be213c9c76fab7aa1f91ce3b029cd564d66081e6de489bbb678561b79e", func := "spile/spilelaw05.ThermalBounds", spec := "thermalBounds", unfollowed := true, recurses := true, named := ["math/bits.divideError", "math/bits.overflowError"], apart := false, narrowed := true }
def ThermalBoundsUptoSaid : Prop := thermalBoundsUptoRow.holds Try.pinned (OpenSpec.upto thermalBoundsSpec)

/-- 'spilelaw05.ThermalMeans', WHERE WHAT IT READS IS OF BULK AT MOST 1048576: true; the input reads as it did. -/
def thermalMeansUptoRow : OpenClaim := { program := "ytbgbndiokckboaa", sum := "90fec3be213c9c76fab7aa1f91ce3b029cd564d66081e6de489bbb678561b79e", func := "spile/spilelaw05.ThermalMeans", spec := "thermalMeans", unfollowed := true, recurses := true, named := ["math/bits.divideError", "math/bits.overflowError"], apart := false, narrowed := true }
def ThermalMeansUptoSaid : Prop := thermalMeansUptoRow.holds Try.pinned (OpenSpec.upto thermalMeansSpec)

end Rows
end Go.Proofs.Ytbgbndiokckboaa
