/-
  No cell of these rows narrows 'for every input' (looked for: loops, veiled, ifaces, maps, wideKeys, modest, calm, conditions, laid).
  DERIVED. THE GIVEN ROWS OF THIS SEAT. 6 by the template 'for every input the law returns true; each argument reads behind the call as it read before'; 0 by the template 'total and deterministic' (their statements: YtafhnfcahhlanaaTotals.lean).
  GIVEN WITH THE SEED: the statements are not yours to turn. If you find one false, say at which input.
  Laid BY PROGRAM, IN A SANDBOX (cutbox-rows.mjs): the forced cells as the released guide's own fill.sh prints them over the translation 9adb62e88b38a8a3… (all of the seat's roots in one cut). By AI agents, Wed Nov 11 2026. No macro, syntax, notation, axiom, sorry.
-/
import Derived.Test.YtafhnfcahhlanaaChecked
import GoSem.Claim
import GoSem.ClaimJoined
import GoSem.ClaimMapViews
import Derived.JoinedTies
import Derived.KernelRfl
namespace Go.Proofs.Ytafhnfcahhlanaa
/- THE CELL 'sum', in the pinned program and in every row, IS THE sha256 OF THE DUMP (.gsa) THAT YtafhnfcahhlanaaProg.lean LOADS. Nothing in Lean hashes anything: it is a label: what it is worth is what the hold of that sum in a sandbox is worth. -/
noncomputable def Try.pinned : Pinned := { name := "ytafhnfcahhlanaa", sum := "9adb62e88b38a8a38412b719be58e11e45b69fc2e4b6ad77d4a34ea92d6a1d2a", checked := Try.checked }
namespace Rows
def none {H : Type} : Left H := { results := [], args := [] }

/-- 'spilelaw27.LinearSolves': WHATEVER THE INPUT: true; the input reads as it did. -/
def linearSolvesSpec : ChangeSpec := { name := "linearSolves", fn := fun _ => fun
  | [d] => { results := [.lit (.bool true)], args := [d] }
  | _ => none }
def linearSolvesRow : OpenClaim := { program := "ytafhnfcahhlanaa", sum := "9adb62e88b38a8a38412b719be58e11e45b69fc2e4b6ad77d4a34ea92d6a1d2a", func := "spile/spilelaw27.LinearSolves", spec := "linearSolves", unfollowed := true, recurses := true, apart := false }
def LinearSolvesSaid : Prop := linearSolvesRow.holds Try.pinned (OpenSpec.ofChange linearSolvesSpec)

/-- ITS FALSE NEIGHBOUR: 'it returns false'. Refute it at one input. -/
def linearSolvesWrong : ChangeSpec := { name := "linearSolves", fn := fun _ => fun
  | [d] => { results := [.lit (.bool false)], args := [d] }
  | _ => none }
def LinearSolvesWrongFalsely : Prop := linearSolvesRow.holds Try.pinned (OpenSpec.ofChange linearSolvesWrong)

/-- 'spilelaw27.LinearVerifies': WHATEVER THE INPUT: true; the input reads as it did. -/
def linearVerifiesSpec : ChangeSpec := { name := "linearVerifies", fn := fun _ => fun
  | [d1, d2] => { results := [.lit (.bool true)], args := [d1, d2] }
  | _ => none }
def linearVerifiesRow : OpenClaim := { program := "ytafhnfcahhlanaa", sum := "9adb62e88b38a8a38412b719be58e11e45b69fc2e4b6ad77d4a34ea92d6a1d2a", func := "spile/spilelaw27.LinearVerifies", spec := "linearVerifies", unfollowed := true, recurses := true, apart := false }
def LinearVerifiesSaid : Prop := linearVerifiesRow.holds Try.pinned (OpenSpec.ofChange linearVerifiesSpec)

/-- ITS FALSE NEIGHBOUR: 'it returns false'. Refute it at one input. -/
def linearVerifiesWrong : ChangeSpec := { name := "linearVerifies", fn := fun _ => fun
  | [d1, d2] => { results := [.lit (.bool false)], args := [d1, d2] }
  | _ => none }
def LinearVerifiesWrongFalsely : Prop := linearVerifiesRow.holds Try.pinned (OpenSpec.ofChange linearVerifiesWrong)

/-- 'spilelaw27.LinearRight': WHATEVER THE INPUT: true; the input reads as it did. -/
def linearRightSpec : ChangeSpec := { name := "linearRight", fn := fun _ => fun
  | [d1, d2] => { results := [.lit (.bool true)], args := [d1, d2] }
  | _ => none }
def linearRightRow : OpenClaim := { program := "ytafhnfcahhlanaa", sum := "9adb62e88b38a8a38412b719be58e11e45b69fc2e4b6ad77d4a34ea92d6a1d2a", func := "spile/spilelaw27.LinearRight", spec := "linearRight", unfollowed := true, recurses := true, apart := false }
def LinearRightSaid : Prop := linearRightRow.holds Try.pinned (OpenSpec.ofChange linearRightSpec)

/-- ITS FALSE NEIGHBOUR: 'it returns false'. Refute it at one input. -/
def linearRightWrong : ChangeSpec := { name := "linearRight", fn := fun _ => fun
  | [d1, d2] => { results := [.lit (.bool false)], args := [d1, d2] }
  | _ => none }
def LinearRightWrongFalsely : Prop := linearRightRow.holds Try.pinned (OpenSpec.ofChange linearRightWrong)

/-- 'spilelaw27.LinearNone': WHATEVER THE INPUT: true; the input reads as it did. -/
def linearNoneSpec : ChangeSpec := { name := "linearNone", fn := fun _ => fun
  | [d1, d2] => { results := [.lit (.bool true)], args := [d1, d2] }
  | _ => none }
def linearNoneRow : OpenClaim := { program := "ytafhnfcahhlanaa", sum := "9adb62e88b38a8a38412b719be58e11e45b69fc2e4b6ad77d4a34ea92d6a1d2a", func := "spile/spilelaw27.LinearNone", spec := "linearNone", unfollowed := true, recurses := true, apart := false }
def LinearNoneSaid : Prop := linearNoneRow.holds Try.pinned (OpenSpec.ofChange linearNoneSpec)

/-- ITS FALSE NEIGHBOUR: 'it returns false'. Refute it at one input. -/
def linearNoneWrong : ChangeSpec := { name := "linearNone", fn := fun _ => fun
  | [d1, d2] => { results := [.lit (.bool false)], args := [d1, d2] }
  | _ => none }
def LinearNoneWrongFalsely : Prop := linearNoneRow.holds Try.pinned (OpenSpec.ofChange linearNoneWrong)

/-- 'spilelaw27.LinearRules': WHATEVER THE INPUT: true; the input reads as it did. -/
def linearRulesSpec : ChangeSpec := { name := "linearRules", fn := fun _ => fun
  | [d1, d2, d3] => { results := [.lit (.bool true)], args := [d1, d2, d3] }
  | _ => none }
def linearRulesRow : OpenClaim := { program := "ytafhnfcahhlanaa", sum := "9adb62e88b38a8a38412b719be58e11e45b69fc2e4b6ad77d4a34ea92d6a1d2a", func := "spile/spilelaw27.LinearRules", spec := "linearRules", unfollowed := true, recurses := true, apart := false }
def LinearRulesSaid : Prop := linearRulesRow.holds Try.pinned (OpenSpec.ofChange linearRulesSpec)

/-- ITS FALSE NEIGHBOUR: 'it returns false'. Refute it at one input. -/
def linearRulesWrong : ChangeSpec := { name := "linearRules", fn := fun _ => fun
  | [d1, d2, d3] => { results := [.lit (.bool false)], args := [d1, d2, d3] }
  | _ => none }
def LinearRulesWrongFalsely : Prop := linearRulesRow.holds Try.pinned (OpenSpec.ofChange linearRulesWrong)

/-- 'spilelaw27.LinearValues': WHATEVER THE INPUT: true; the input reads as it did. -/
def linearValuesSpec : ChangeSpec := { name := "linearValues", fn := fun _ => fun
  | [d1, d2] => { results := [.lit (.bool true)], args := [d1, d2] }
  | _ => none }
def linearValuesRow : OpenClaim := { program := "ytafhnfcahhlanaa", sum := "9adb62e88b38a8a38412b719be58e11e45b69fc2e4b6ad77d4a34ea92d6a1d2a", func := "spile/spilelaw27.LinearValues", spec := "linearValues", unfollowed := true, recurses := true, apart := false }
def LinearValuesSaid : Prop := linearValuesRow.holds Try.pinned (OpenSpec.ofChange linearValuesSpec)

/-- ITS FALSE NEIGHBOUR: 'it returns false'. Refute it at one input. -/
def linearValuesWrong : ChangeSpec := { name := "linearValues", fn := fun _ => fun
  | [d1, d2] => { results := [.lit (.bool false)], args := [d1, d2] }
  | _ => none }
def LinearValuesWrongFalsely : Prop := linearValuesRow.holds Try.pinned (OpenSpec.ofChange linearValuesWrong)

/- THE SECOND FORM. 'bulk': how many values and letters a reading holds, each counted each time it is reached (what is shared counts as often as it is met; a slice's spare places count too). A statement '..UptoSaid' is the law's where the arguments, and the package variables that the reading takes, are together of bulk at most 1048576: NARROWER than '..Said'. Prove '..Said' where nothing that the law and all that it calls make is longer than what came in: it says more and counts as full. Else prove '..UptoSaid'. A law counts once. -/
mutual
def uptoBulk {H : Type} : DataW H → Nat
  | .lit (.string bytes) => bytes.length + 1
  | .lit _ => 1
  | .nil => 1
  | .ptr d => uptoBulk d + 1
  | .slice elems spare => uptoBulkAll elems + uptoBulkAll spare + 1
  | .agg parts => uptoBulkAll parts + 1
  | .iface _ d => uptoBulk d + 1
  | .map entries => uptoBulkEntries entries + 1
  | .held _ => 1
def uptoBulkAll {H : Type} : List (DataW H) → Nat
  | [] => 0
  | d :: r => uptoBulk d + uptoBulkAll r
def uptoBulkEntries {H : Type} : List (Lit × DataW H) → Nat
  | [] => 0
  | x :: r => uptoBulkEntry x + uptoBulkEntries r
def uptoBulkEntry {H : Type} : Lit × DataW H → Nat
  | (.string bytes, d) => bytes.length + uptoBulk d + 1
  | (_, d) => uptoBulk d + 1
 end
def uptoSmall : (H : Type) → List (DataW H) → Bool := fun _ ds => decide (uptoBulkAll ds ≤ 1048576)
def OpenSpec.upto (s : _root_.Go.ChangeSpec) : _root_.Go.OpenSpec := { _root_.Go.OpenSpec.ofChange s with cond := some uptoSmall }

/-- 'spilelaw27.LinearSolves', WHERE WHAT IT READS IS OF BULK AT MOST 1048576: true; the input reads as it did. -/
def linearSolvesUptoRow : OpenClaim := { program := "ytafhnfcahhlanaa", sum := "9adb62e88b38a8a38412b719be58e11e45b69fc2e4b6ad77d4a34ea92d6a1d2a", func := "spile/spilelaw27.LinearSolves", spec := "linearSolves", unfollowed := true, recurses := true, apart := false, narrowed := true }
def LinearSolvesUptoSaid : Prop := linearSolvesUptoRow.holds Try.pinned (OpenSpec.upto linearSolvesSpec)

/-- 'spilelaw27.LinearVerifies', WHERE WHAT IT READS IS OF BULK AT MOST 1048576: true; the input reads as it did. -/
def linearVerifiesUptoRow : OpenClaim := { program := "ytafhnfcahhlanaa", sum := "9adb62e88b38a8a38412b719be58e11e45b69fc2e4b6ad77d4a34ea92d6a1d2a", func := "spile/spilelaw27.LinearVerifies", spec := "linearVerifies", unfollowed := true, recurses := true, apart := false, narrowed := true }
def LinearVerifiesUptoSaid : Prop := linearVerifiesUptoRow.holds Try.pinned (OpenSpec.upto linearVerifiesSpec)

/-- 'spilelaw27.LinearRight', WHERE WHAT IT READS IS OF BULK AT MOST 1048576: true; the input reads as it did. -/
def linearRightUptoRow : OpenClaim := { program := "ytafhnfcahhlanaa", sum := "9adb62e88b38a8a38412b719be58e11e45b69fc2e4b6ad77d4a34ea92d6a1d2a", func := "spile/spilelaw27.LinearRight", spec := "linearRight", unfollowed := true, recurses := true, apart := false, narrowed := true }
def LinearRightUptoSaid : Prop := linearRightUptoRow.holds Try.pinned (OpenSpec.upto linearRightSpec)

/-- 'spilelaw27.LinearNone', WHERE WHAT IT READS IS OF BULK AT MOST 1048576: true; the input reads as it did. -/
def linearNoneUptoRow : OpenClaim := { program := "ytafhnfcahhlanaa", sum := "9adb62e88b38a8a38412b719be58e11e45b69fc2e4b6ad77d4a34ea92d6a1d2a", func := "spile/spilelaw27.LinearNone", spec := "linearNone", unfollowed := true, recurses := true, apart := false, narrowed := true }
def LinearNoneUptoSaid : Prop := linearNoneUptoRow.holds Try.pinned (OpenSpec.upto linearNoneSpec)

/-- 'spilelaw27.LinearRules', WHERE WHAT IT READS IS OF BULK AT MOST 1048576: true; the input reads as it did. -/
def linearRulesUptoRow : OpenClaim := { program := "ytafhnfcahhlanaa", sum := "9adb62e88b38a8a38412b719be58e11e45b69fc2e4b6ad77d4a34ea92d6a1d2a", func := "spile/spilelaw27.LinearRules", spec := "linearRules", unfollowed := true, recurses := true, apart := false, narrowed := true }
def LinearRulesUptoSaid : Prop := linearRulesUptoRow.holds Try.pinned (OpenSpec.upto linearRulesSpec)

/-- 'spilelaw27.LinearValues', WHERE WHAT IT READS IS OF BULK AT MOST 1048576: true; the input reads as it did. -/
def linearValuesUptoRow : OpenClaim := { program := "ytafhnfcahhlanaa", sum := "9adb62e88b38a8a38412b719be58e11e45b69fc2e4b6ad77d4a34ea92d6a1d2a", func := "spile/spilelaw27.LinearValues", spec := "linearValues", unfollowed := true, recurses := true, apart := false, narrowed := true }
def LinearValuesUptoSaid : Prop := linearValuesUptoRow.holds Try.pinned (OpenSpec.upto linearValuesSpec)

end Rows
end Go.Proofs.Ytafhnfcahhlanaa
