/-
  No cell of these rows narrows 'for every input' (looked for: loops, veiled, ifaces, maps, wideKeys, modest, calm, conditions, laid).
  DERIVED. THE GIVEN ROWS OF THIS SEAT. 7 by the template 'for every input the law returns true; each argument reads behind the call as it read before'; 0 by the template 'total and deterministic' (their statements: YtpoalimbjeehkaaTotals.lean).
  GIVEN WITH THE SEED: the statements are not yours to turn. If you find one false, say at which input.
  Laid BY PROGRAM, IN A SANDBOX (cutbox-rows.mjs): the forced cells as the released guide's own fill.sh prints them over the translation b4c50dd88ebf9e2a… (all of the seat's roots in one cut). By AI agents, Wed Nov 11 2026. No macro, syntax, notation, axiom, sorry.
-/
import Derived.Test.YtpoalimbjeehkaaChecked
import GoSem.Claim
import GoSem.ClaimJoined
import GoSem.ClaimMapViews
import Derived.JoinedTies
import Derived.KernelRfl
namespace Go.Proofs.Ytpoalimbjeehkaa
/- THE CELL 'sum', in the pinned program and in every row, IS THE sha256 OF THE DUMP (.gsa) THAT YtpoalimbjeehkaaProg.lean LOADS. Nothing in Lean hashes anything: it is a label: what it is worth is what the hold of that sum in a sandbox is worth. -/
noncomputable def Try.pinned : Pinned := { name := "ytpoalimbjeehkaa", sum := "b4c50dd88ebf9e2af298c9e381f5d394d3b6289539b02b94061576c065c94135", checked := Try.checked }
namespace Rows
def none {H : Type} : Left H := { results := [], args := [] }

/-- 'spilelaw38.GapExplains': WHATEVER THE INPUT: true; the input reads as it did. -/
def gapExplainsSpec : ChangeSpec := { name := "gapExplains", fn := fun _ => fun
  | [d1, d2, d3] => { results := [.lit (.bool true)], args := [d1, d2, d3] }
  | _ => none }
def gapExplainsRow : OpenClaim := { program := "ytpoalimbjeehkaa", sum := "b4c50dd88ebf9e2af298c9e381f5d394d3b6289539b02b94061576c065c94135", func := "spile/spilelaw38.GapExplains", spec := "gapExplains", unfollowed := true, recurses := true, apart := false }
def GapExplainsSaid : Prop := gapExplainsRow.holds Try.pinned (OpenSpec.ofChange gapExplainsSpec)

/-- ITS FALSE NEIGHBOUR: 'it returns false'. Refute it at one input. -/
def gapExplainsWrong : ChangeSpec := { name := "gapExplains", fn := fun _ => fun
  | [d1, d2, d3] => { results := [.lit (.bool false)], args := [d1, d2, d3] }
  | _ => none }
def GapExplainsWrongFalsely : Prop := gapExplainsRow.holds Try.pinned (OpenSpec.ofChange gapExplainsWrong)

/-- 'spilelaw38.GapCounts': WHATEVER THE INPUT: true; the input reads as it did. -/
def gapCountsSpec : ChangeSpec := { name := "gapCounts", fn := fun _ => fun
  | [d1, d2] => { results := [.lit (.bool true)], args := [d1, d2] }
  | _ => none }
def gapCountsRow : OpenClaim := { program := "ytpoalimbjeehkaa", sum := "b4c50dd88ebf9e2af298c9e381f5d394d3b6289539b02b94061576c065c94135", func := "spile/spilelaw38.GapCounts", spec := "gapCounts", unfollowed := true, recurses := true, apart := false }
def GapCountsSaid : Prop := gapCountsRow.holds Try.pinned (OpenSpec.ofChange gapCountsSpec)

/-- ITS FALSE NEIGHBOUR: 'it returns false'. Refute it at one input. -/
def gapCountsWrong : ChangeSpec := { name := "gapCounts", fn := fun _ => fun
  | [d1, d2] => { results := [.lit (.bool false)], args := [d1, d2] }
  | _ => none }
def GapCountsWrongFalsely : Prop := gapCountsRow.holds Try.pinned (OpenSpec.ofChange gapCountsWrong)

/-- 'spilelaw38.GapNear': WHATEVER THE INPUT: true; the input reads as it did. -/
def gapNearSpec : ChangeSpec := { name := "gapNear", fn := fun _ => fun
  | [d1, d2] => { results := [.lit (.bool true)], args := [d1, d2] }
  | _ => none }
def gapNearRow : OpenClaim := { program := "ytpoalimbjeehkaa", sum := "b4c50dd88ebf9e2af298c9e381f5d394d3b6289539b02b94061576c065c94135", func := "spile/spilelaw38.GapNear", spec := "gapNear", unfollowed := true, recurses := true, apart := false }
def GapNearSaid : Prop := gapNearRow.holds Try.pinned (OpenSpec.ofChange gapNearSpec)

/-- ITS FALSE NEIGHBOUR: 'it returns false'. Refute it at one input. -/
def gapNearWrong : ChangeSpec := { name := "gapNear", fn := fun _ => fun
  | [d1, d2] => { results := [.lit (.bool false)], args := [d1, d2] }
  | _ => none }
def GapNearWrongFalsely : Prop := gapNearRow.holds Try.pinned (OpenSpec.ofChange gapNearWrong)

/-- 'spilelaw38.GapWider': WHATEVER THE INPUT: true; the input reads as it did. -/
def gapWiderSpec : ChangeSpec := { name := "gapWider", fn := fun _ => fun
  | [d1, d2, d3] => { results := [.lit (.bool true)], args := [d1, d2, d3] }
  | _ => none }
def gapWiderRow : OpenClaim := { program := "ytpoalimbjeehkaa", sum := "b4c50dd88ebf9e2af298c9e381f5d394d3b6289539b02b94061576c065c94135", func := "spile/spilelaw38.GapWider", spec := "gapWider", unfollowed := true, recurses := true, apart := false }
def GapWiderSaid : Prop := gapWiderRow.holds Try.pinned (OpenSpec.ofChange gapWiderSpec)

/-- ITS FALSE NEIGHBOUR: 'it returns false'. Refute it at one input. -/
def gapWiderWrong : ChangeSpec := { name := "gapWider", fn := fun _ => fun
  | [d1, d2, d3] => { results := [.lit (.bool false)], args := [d1, d2, d3] }
  | _ => none }
def GapWiderWrongFalsely : Prop := gapWiderRow.holds Try.pinned (OpenSpec.ofChange gapWiderWrong)

/-- 'spilelaw38.GapMirrored': WHATEVER THE INPUT: true; the input reads as it did. -/
def gapMirroredSpec : ChangeSpec := { name := "gapMirrored", fn := fun _ => fun
  | [d1, d2] => { results := [.lit (.bool true)], args := [d1, d2] }
  | _ => none }
def gapMirroredRow : OpenClaim := { program := "ytpoalimbjeehkaa", sum := "b4c50dd88ebf9e2af298c9e381f5d394d3b6289539b02b94061576c065c94135", func := "spile/spilelaw38.GapMirrored", spec := "gapMirrored", unfollowed := true, recurses := true, apart := false }
def GapMirroredSaid : Prop := gapMirroredRow.holds Try.pinned (OpenSpec.ofChange gapMirroredSpec)

/-- ITS FALSE NEIGHBOUR: 'it returns false'. Refute it at one input. -/
def gapMirroredWrong : ChangeSpec := { name := "gapMirrored", fn := fun _ => fun
  | [d1, d2] => { results := [.lit (.bool false)], args := [d1, d2] }
  | _ => none }
def GapMirroredWrongFalsely : Prop := gapMirroredRow.holds Try.pinned (OpenSpec.ofChange gapMirroredWrong)

/-- 'spilelaw38.GapFewest': WHATEVER THE INPUT: true; the input reads as it did. -/
def gapFewestSpec : ChangeSpec := { name := "gapFewest", fn := fun _ => fun
  | [d1, d2] => { results := [.lit (.bool true)], args := [d1, d2] }
  | _ => none }
def gapFewestRow : OpenClaim := { program := "ytpoalimbjeehkaa", sum := "b4c50dd88ebf9e2af298c9e381f5d394d3b6289539b02b94061576c065c94135", func := "spile/spilelaw38.GapFewest", spec := "gapFewest", unfollowed := true, recurses := true, apart := false }
def GapFewestSaid : Prop := gapFewestRow.holds Try.pinned (OpenSpec.ofChange gapFewestSpec)

/-- ITS FALSE NEIGHBOUR: 'it returns false'. Refute it at one input. -/
def gapFewestWrong : ChangeSpec := { name := "gapFewest", fn := fun _ => fun
  | [d1, d2] => { results := [.lit (.bool false)], args := [d1, d2] }
  | _ => none }
def GapFewestWrongFalsely : Prop := gapFewestRow.holds Try.pinned (OpenSpec.ofChange gapFewestWrong)

/-- 'spilelaw38.GapPairs': WHATEVER THE INPUT: true; the input reads as it did. -/
def gapPairsSpec : ChangeSpec := { name := "gapPairs", fn := fun _ => fun
  | [d1, d2, d3] => { results := [.lit (.bool true)], args := [d1, d2, d3] }
  | _ => none }
def gapPairsRow : OpenClaim := { program := "ytpoalimbjeehkaa", sum := "b4c50dd88ebf9e2af298c9e381f5d394d3b6289539b02b94061576c065c94135", func := "spile/spilelaw38.GapPairs", spec := "gapPairs", unfollowed := true, recurses := true, apart := false }
def GapPairsSaid : Prop := gapPairsRow.holds Try.pinned (OpenSpec.ofChange gapPairsSpec)

/-- ITS FALSE NEIGHBOUR: 'it returns false'. Refute it at one input. -/
def gapPairsWrong : ChangeSpec := { name := "gapPairs", fn := fun _ => fun
  | [d1, d2, d3] => { results := [.lit (.bool false)], args := [d1, d2, d3] }
  | _ => none }
def GapPairsWrongFalsely : Prop := gapPairsRow.holds Try.pinned (OpenSpec.ofChange gapPairsWrong)

/- THE SECOND FORM. 'bulk': how many values and letters a reading holds, each counted each time it is reached (what is shared counts as often as it is met; a slice's spare places count too). A statement '..UptoSaid' is the law's where the arguments, and the package variables that the reading takes, are together of bulk at most 1048576: NARROWER than '..Said'. Prove '..Said' where nothing that the law and all that it calls make is longer than what came in: it says more and counts as full. Else prove '..UptoSaid'. A law counts once. -/
mutual
def uptoBulk {H : Type} : DataW H → Nat
  | .lit (.string bytes) => bytes.length + 1
  | .lit _ => 1
  | .nil => 1
  | .ptr d => uptoBulk d + 1
  | .slice elems spare => uptoBulkAll elems + uptoBulkAll spare + 1
  | .agg parts => uptoBulkAll parts + 1
  | .iface _ d => uptoBulk d + 1
  | .map entries => uptoBulkEntries entries + 1
  | .held _ => 1
def uptoBulkAll {H : Type} : List (DataW H) → Nat
  | [] => 0
  | d :: r => uptoBulk d + uptoBulkAll r
def uptoBulkEntries {H : Type} : List (Lit × DataW H) → Nat
  | [] => 0
  | x :: r => uptoBulkEntry x + uptoBulkEntries r
def uptoBulkEntry {H : Type} : Lit × DataW H → Nat
  | (.string bytes, d) => bytes.length + uptoBulk d + 1
  | (_, d) => uptoBulk d + 1
 end
def uptoSmall : (H : Type) → List (DataW H) → Bool := fun _ ds => decide (uptoBulkAll ds ≤ 1048576)
def OpenSpec.upto (s : _root_.Go.ChangeSpec) : _root_.Go.OpenSpec := { _root_.Go.OpenSpec.ofChange s with cond := some uptoSmall }

/-- 'spilelaw38.GapExplains', WHERE WHAT IT READS IS OF BULK AT MOST 1048576: true; the input reads as it did. -/
def gapExplainsUptoRow : OpenClaim := { program := "ytpoalimbjeehkaa", sum := "b4c50dd88ebf9e2af298c9e381f5d394d3b6289539b02b94061576c065c94135", func := "spile/spilelaw38.GapExplains", spec := "gapExplains", unfollowed := true, recurses := true, apart := false, narrowed := true }
def GapExplainsUptoSaid : Prop := gapExplainsUptoRow.holds Try.pinned (OpenSpec.upto gapExplainsSpec)

/-- 'spilelaw38.GapCounts', WHERE WHAT IT READS IS OF BULK AT MOST 1048576: true; the input reads as it did. -/
def gapCountsUptoRow : OpenClaim := { program := "ytpoalimbjeehkaa", sum := "b4c50dd88ebf9e2af298c9e381f5d394d3b6289539b02b94061576c065c94135", func := "spile/spilelaw38.GapCounts", spec := "gapCounts", unfollowed := true, recurses := true, apart := false, narrowed := true }
def GapCountsUptoSaid : Prop := gapCountsUptoRow.holds Try.pinned (OpenSpec.upto gapCountsSpec)

/-- 'spilelaw38.GapNear', WHERE WHAT IT READS IS OF BULK AT MOST 1048576: true; the input reads as it did. -/
def gapNearUptoRow : OpenClaim := { program := "ytpoalimbjeehkaa", sum := "b4c50dd88ebf9e2af298c9e381f5d394d3b6289539b02b94061576c065c94135", func := "spile/spilelaw38.GapNear", spec := "gapNear", unfollowed := true, recurses := true, apart := false, narrowed := true }
def GapNearUptoSaid : Prop := gapNearUptoRow.holds Try.pinned (OpenSpec.upto gapNearSpec)

/-- 'spilelaw38.GapWider', WHERE WHAT IT READS IS OF BULK AT MOST 1048576: true; the input reads as it did. -/
def gapWiderUptoRow : OpenClaim := { program := "ytpoalimbjeehkaa", sum := "b4c50dd88ebf9e2af298c9e381f5d394d3b6289539b02b94061576c065c94135", func := "spile/spilelaw38.GapWider", spec := "gapWider", unfollowed := true, recurses := true, apart := false, narrowed := true }
def GapWiderUptoSaid : Prop := gapWiderUptoRow.holds Try.pinned (OpenSpec.upto gapWiderSpec)

/-- 'spilelaw38.GapMirrored', WHERE WHAT IT READS IS OF BULK AT MOST 1048576: true; the input reads as it did. -/
def gapMirroredUptoRow : OpenClaim := { program := "ytpoalimbjeehkaa", sum := "b4c50dd88ebf9e2af298c9e381f5d394d3b6289539b02b94061576c065c94135", func := "spile/spilelaw38.GapMirrored", spec := "gapMirrored", unfollowed := true, recurses := true, apart := false, narrowed := true }
def GapMirroredUptoSaid : Prop := gapMirroredUptoRow.holds Try.pinned (OpenSpec.upto gapMirroredSpec)

/-- 'spilelaw38.GapFewest', WHERE WHAT IT READS IS OF BULK AT MOST 1048576: true; the input reads as it did. -/
def gapFewestUptoRow : OpenClaim := { program := "ytpoalimbjeehkaa", sum := "b4c50dd88ebf9e2af298c9e381f5d394d3b6289539b02b94061576c065c94135", func := "spile/spilelaw38.GapFewest", spec := "gapFewest", unfollowed := true, recurses := true, apart := false, narrowed := true }
def GapFewestUptoSaid : Prop := gapFewestUptoRow.holds Try.pinned (OpenSpec.upto gapFewestSpec)

/-- 'spilelaw38.GapPairs', WHERE WHAT IT READS IS OF BULK AT MOST 1048576: true; the input reads as it did. -/
def gapPairsUptoRow : OpenClaim := { program := "ytpoalimbjeehkaa", sum := "b4c50dd88ebf9e2af298c9e381f5d394d3b6289539b02b94061576c065c94135", func := "spile/spilelaw38.GapPairs", spec := "gapPairs", unfollowed := true, recurses := true, apart := false, narrowed := true }
def GapPairsUptoSaid : Prop := gapPairsUptoRow.holds Try.pinned (OpenSpec.upto gapPairsSpec)

end Rows
end Go.Proofs.Ytpoalimbjeehkaa
