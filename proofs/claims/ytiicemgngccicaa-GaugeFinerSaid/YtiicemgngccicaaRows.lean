/-
  No cell of these rows narrows 'for every input' (looked for: loops, veiled, ifaces, maps, wideKeys, modest, calm, conditions, laid).
  DERIVED. THE GIVEN ROWS OF THIS SEAT. 6 by the template 'for every input the law returns true; each argument reads behind the call as it read before'; 0 by the template 'total and deterministic' (their statements: YtiicemgngccicaaTotals.lean).
  GIVEN WITH THE SEED: the statements are not yours to turn. If you find one false, say at which input.
  Laid BY PROGRAM, IN A SANDBOX (cutbox-rows.mjs): the forced cells as the released guide's own fill.sh prints them over the translation f3e27901b1ee9974… (all of the seat's roots in one cut). By AI agents, Wed Nov 11 2026. No macro, syntax, notation, axiom, sorry.
-/
import Derived.Test.YtiicemgngccicaaChecked
import GoSem.Claim
import GoSem.ClaimJoined
import GoSem.ClaimMapViews
import Derived.JoinedTies
import Derived.KernelRfl
namespace Go.Proofs.Ytiicemgngccicaa
/- THE CELL 'sum', in the pinned program and in every row, IS THE sha256 OF THE DUMP (.gsa) THAT YtiicemgngccicaaProg.lean LOADS. Nothing in Lean hashes anything: it is a label: what it is worth is what the hold of that sum in a sandbox is worth. -/
noncomputable def Try.pinned : Pinned := { name := "ytiicemgngccicaa", sum := "f3e27901b1ee9974ae9327d751cd1e47d9f98db0e1cd4fcdd1e8d03c9b92c923", checked := Try.checked }
namespace Rows
def none {H : Type} : Left H := { results := [], args := [] }

/-- 'spilelaw15.GaugeReports': WHATEVER THE INPUT: true; the input reads as it did. -/
def gaugeReportsSpec : ChangeSpec := { name := "gaugeReports", fn := fun _ => fun
  | [d1, d2, d3] => { results := [.lit (.bool true)], args := [d1, d2, d3] }
  | _ => none }
def gaugeReportsRow : OpenClaim := { program := "ytiicemgngccicaa", sum := "f3e27901b1ee9974ae9327d751cd1e47d9f98db0e1cd4fcdd1e8d03c9b92c923", func := "spile/spilelaw15.GaugeReports", spec := "gaugeReports", unfollowed := true, recurses := true, named := ["math/bits.divideError", "math/bits.overflowError"], apart := false }
def GaugeReportsSaid : Prop := gaugeReportsRow.holds Try.pinned (OpenSpec.ofChange gaugeReportsSpec)

/-- ITS FALSE NEIGHBOUR: 'it returns false'. Refute it at one input. -/
def gaugeReportsWrong : ChangeSpec := { name := "gaugeReports", fn := fun _ => fun
  | [d1, d2, d3] => { results := [.lit (.bool false)], args := [d1, d2, d3] }
  | _ => none }
def GaugeReportsWrongFalsely : Prop := gaugeReportsRow.holds Try.pinned (OpenSpec.ofChange gaugeReportsWrong)

/-- 'spilelaw15.GaugeRight': WHATEVER THE INPUT: true; the input reads as it did. -/
def gaugeRightSpec : ChangeSpec := { name := "gaugeRight", fn := fun _ => fun
  | [d1, d2, d3, d4] => { results := [.lit (.bool true)], args := [d1, d2, d3, d4] }
  | _ => none }
def gaugeRightRow : OpenClaim := { program := "ytiicemgngccicaa", sum := "f3e27901b1ee9974ae9327d751cd1e47d9f98db0e1cd4fcdd1e8d03c9b92c923", func := "spile/spilelaw15.GaugeRight", spec := "gaugeRight", unfollowed := true, recurses := true, named := ["math/bits.divideError", "math/bits.overflowError"], apart := false }
def GaugeRightSaid : Prop := gaugeRightRow.holds Try.pinned (OpenSpec.ofChange gaugeRightSpec)

/-- ITS FALSE NEIGHBOUR: 'it returns false'. Refute it at one input. -/
def gaugeRightWrong : ChangeSpec := { name := "gaugeRight", fn := fun _ => fun
  | [d1, d2, d3, d4] => { results := [.lit (.bool false)], args := [d1, d2, d3, d4] }
  | _ => none }
def GaugeRightWrongFalsely : Prop := gaugeRightRow.holds Try.pinned (OpenSpec.ofChange gaugeRightWrong)

/-- 'spilelaw15.GaugeAnswers': WHATEVER THE INPUT: true; the input reads as it did. -/
def gaugeAnswersSpec : ChangeSpec := { name := "gaugeAnswers", fn := fun _ => fun
  | [d1, d2] => { results := [.lit (.bool true)], args := [d1, d2] }
  | _ => none }
def gaugeAnswersRow : OpenClaim := { program := "ytiicemgngccicaa", sum := "f3e27901b1ee9974ae9327d751cd1e47d9f98db0e1cd4fcdd1e8d03c9b92c923", func := "spile/spilelaw15.GaugeAnswers", spec := "gaugeAnswers", unfollowed := true, recurses := true, named := ["math/bits.divideError", "math/bits.overflowError"], apart := false }
def GaugeAnswersSaid : Prop := gaugeAnswersRow.holds Try.pinned (OpenSpec.ofChange gaugeAnswersSpec)

/-- ITS FALSE NEIGHBOUR: 'it returns false'. Refute it at one input. -/
def gaugeAnswersWrong : ChangeSpec := { name := "gaugeAnswers", fn := fun _ => fun
  | [d1, d2] => { results := [.lit (.bool false)], args := [d1, d2] }
  | _ => none }
def GaugeAnswersWrongFalsely : Prop := gaugeAnswersRow.holds Try.pinned (OpenSpec.ofChange gaugeAnswersWrong)

/-- 'spilelaw15.GaugeLists': WHATEVER THE INPUT: true; the input reads as it did. -/
def gaugeListsSpec : ChangeSpec := { name := "gaugeLists", fn := fun _ => fun
  | [d1, d2] => { results := [.lit (.bool true)], args := [d1, d2] }
  | _ => none }
def gaugeListsRow : OpenClaim := { program := "ytiicemgngccicaa", sum := "f3e27901b1ee9974ae9327d751cd1e47d9f98db0e1cd4fcdd1e8d03c9b92c923", func := "spile/spilelaw15.GaugeLists", spec := "gaugeLists", unfollowed := true, recurses := true, named := ["math/bits.divideError", "math/bits.overflowError"], apart := false }
def GaugeListsSaid : Prop := gaugeListsRow.holds Try.pinned (OpenSpec.ofChange gaugeListsSpec)

/-- ITS FALSE NEIGHBOUR: 'it returns false'. Refute it at one input. -/
def gaugeListsWrong : ChangeSpec := { name := "gaugeLists", fn := fun _ => fun
  | [d1, d2] => { results := [.lit (.bool false)], args := [d1, d2] }
  | _ => none }
def GaugeListsWrongFalsely : Prop := gaugeListsRow.holds Try.pinned (OpenSpec.ofChange gaugeListsWrong)

/-- 'spilelaw15.GaugeFiner': WHATEVER THE INPUT: true; the input reads as it did. -/
def gaugeFinerSpec : ChangeSpec := { name := "gaugeFiner", fn := fun _ => fun
  | [d1, d2, d3] => { results := [.lit (.bool true)], args := [d1, d2, d3] }
  | _ => none }
def gaugeFinerRow : OpenClaim := { program := "ytiicemgngccicaa", sum := "f3e27901b1ee9974ae9327d751cd1e47d9f98db0e1cd4fcdd1e8d03c9b92c923", func := "spile/spilelaw15.GaugeFiner", spec := "gaugeFiner", unfollowed := true, recurses := true, named := ["math/bits.divideError", "math/bits.overflowError"], apart := false }
def GaugeFinerSaid : Prop := gaugeFinerRow.holds Try.pinned (OpenSpec.ofChange gaugeFinerSpec)

/-- ITS FALSE NEIGHBOUR: 'it returns false'. Refute it at one input. -/
def gaugeFinerWrong : ChangeSpec := { name := "gaugeFiner", fn := fun _ => fun
  | [d1, d2, d3] => { results := [.lit (.bool false)], args := [d1, d2, d3] }
  | _ => none }
def GaugeFinerWrongFalsely : Prop := gaugeFinerRow.holds Try.pinned (OpenSpec.ofChange gaugeFinerWrong)

/-- 'spilelaw15.GaugeTogether': WHATEVER THE INPUT: true; the input reads as it did. -/
def gaugeTogetherSpec : ChangeSpec := { name := "gaugeTogether", fn := fun _ => fun
  | [d] => { results := [.lit (.bool true)], args := [d] }
  | _ => none }
def gaugeTogetherRow : OpenClaim := { program := "ytiicemgngccicaa", sum := "f3e27901b1ee9974ae9327d751cd1e47d9f98db0e1cd4fcdd1e8d03c9b92c923", func := "spile/spilelaw15.GaugeTogether", spec := "gaugeTogether", unfollowed := true, recurses := true, named := ["math/bits.divideError", "math/bits.overflowError"], apart := false }
def GaugeTogetherSaid : Prop := gaugeTogetherRow.holds Try.pinned (OpenSpec.ofChange gaugeTogetherSpec)

/-- ITS FALSE NEIGHBOUR: 'it returns false'. Refute it at one input. -/
def gaugeTogetherWrong : ChangeSpec := { name := "gaugeTogether", fn := fun _ => fun
  | [d] => { results := [.lit (.bool false)], args := [d] }
  | _ => none }
def GaugeTogetherWrongFalsely : Prop := gaugeTogetherRow.holds Try.pinned (OpenSpec.ofChange gaugeTogetherWrong)

/- THE SECOND FORM. 'bulk': how many values and letters a reading holds, each counted each time it is reached (what is shared counts as often as it is met; a slice's spare places count too). A statement '..UptoSaid' is the law's where the arguments, and the package variables that the reading takes, are together of bulk at most 1048576: NARROWER than '..Said'. Prove '..Said' where nothing that the law and all that it calls make is longer than what came in: it says more and counts as full. Else prove '..UptoSaid'. A law counts once. -/
mutual
def uptoBulk {H : Type} : DataW H → Nat
  | .lit (.string bytes) => bytes.length + 1
  | .lit _ => 1
  | .nil => 1
  | .ptr d => uptoBulk d + 1
  | .slice elems spare => uptoBulkAll elems + uptoBulkAll spare + 1
  | .agg parts => uptoBulkAll parts + 1
  | .iface _ d => uptoBulk d + 1
  | .map entries => uptoBulkEntries entries + 1
  | .held _ => 1
def uptoBulkAll {H : Type} : List (DataW H) → Nat
  | [] => 0
  | d :: r => uptoBulk d + uptoBulkAll r
def uptoBulkEntries {H : Type} : List (Lit × DataW H) → Nat
  | [] => 0
  | x :: r => uptoBulkEntry x + uptoBulkEntries r
def uptoBulkEntry {H : Type} : Lit × DataW H → Nat
  | (.string bytes, d) => bytes.length + uptoBulk d + 1
  | (_, d) => uptoBulk d + 1
 end
def uptoSmall : (H : Type) → List (DataW H) → Bool := fun _ ds => decide (uptoBulkAll ds ≤ 1048576)
def OpenSpec.upto (s : _root_.Go.ChangeSpec) : _root_.Go.OpenSpec := { _root_.Go.OpenSpec.ofChange s with cond := some uptoSmall }

/-- 'spilelaw15.GaugeReports', WHERE WHAT IT READS IS OF BULK AT MOST 1048576: true; the input reads as it did. -/
def gaugeReportsUptoRow : OpenClaim := { program := "ytiicemgngccicaa", sum := "f3e27901b1ee9974ae9327d751cd1e47d9f98db0e1cd4fcdd1e8d03c9b92c923", func := "spile/spilelaw15.GaugeReports", spec := "gaugeReports", unfollowed := true, recurses := true, named := ["math/bits.divideError", "math/bits.overflowError"], apart := false, narrowed := true }
def GaugeReportsUptoSaid : Prop := gaugeReportsUptoRow.holds Try.pinned (OpenSpec.upto gaugeReportsSpec)

/-- 'spilelaw15.GaugeRight', WHERE WHAT IT READS IS OF BULK AT MOST 1048576: true; the input reads as it did. -/
def gaugeRightUptoRow : OpenClaim := { program := "ytiicemgngccicaa", sum := "f3e27901b1ee9974ae9327d751cd1e47d9f98db0e1cd4fcdd1e8d03c9b92c923", func := "spile/spilelaw15.GaugeRight", spec := "gaugeRight", unfollowed := true, recurses := true, named := ["math/bits.divideError", "math/bits.overflowError"], apart := false, narrowed := true }
def GaugeRightUptoSaid : Prop := gaugeRightUptoRow.holds Try.pinned (OpenSpec.upto gaugeRightSpec)

/-- 'spilelaw15.GaugeAnswers', WHERE WHAT IT READS IS OF BULK AT MOST 1048576: true; the input reads as it did. -/
def gaugeAnswersUptoRow : OpenClaim := { program := "ytiicemgngccicaa", sum := "f3e27901b1ee9974ae9327d751cd1e47d9f98db0e1cd4fcdd1e8d03c9b92c923", func := "spile/spilelaw15.GaugeAnswers", spec := "gaugeAnswers", unfollowed := true, recurses := true, named := ["math/bits.divideError", "math/bits.overflowError"], apart := false, narrowed := true }
def GaugeAnswersUptoSaid : Prop := gaugeAnswersUptoRow.holds Try.pinned (OpenSpec.upto gaugeAnswersSpec)

/-- 'spilelaw15.GaugeLists', WHERE WHAT IT READS IS OF BULK AT MOST 1048576: true; the input reads as it did. -/
def gaugeListsUptoRow : OpenClaim := { program := "ytiicemgngccicaa", sum := "f3e27901b1ee9974ae9327d751cd1e47d9f98db0e1cd4fcdd1e8d03c9b92c923", func := "spile/spilelaw15.GaugeLists", spec := "gaugeLists", unfollowed := true, recurses := true, named := ["math/bits.divideError", "math/bits.overflowError"], apart := false, narrowed := true }
def GaugeListsUptoSaid : Prop := gaugeListsUptoRow.holds Try.pinned (OpenSpec.upto gaugeListsSpec)

/-- 'spilelaw15.GaugeFiner', WHERE WHAT IT READS IS OF BULK AT MOST 1048576: true; the input reads as it did. -/
def gaugeFinerUptoRow : OpenClaim := { program := "ytiicemgngccicaa", sum := "f3e27901b1ee9974ae9327d751cd1e47d9f98db0e1cd4fcdd1e8d03c9b92c923", func := "spile/spilelaw15.GaugeFiner", spec := "gaugeFiner", unfollowed := true, recurses := true, named := ["math/bits.divideError", "math/bits.overflowError"], apart := false, narrowed := true }
def GaugeFinerUptoSaid : Prop := gaugeFinerUptoRow.holds Try.pinned (OpenSpec.upto gaugeFinerSpec)

/-- 'spilelaw15.GaugeTogether', WHERE WHAT IT READS IS OF BULK AT MOST 1048576: true; the input reads as it did. -/
def gaugeTogetherUptoRow : OpenClaim := { program := "ytiicemgngccicaa", sum := "f3e27901b1ee9974ae9327d751cd1e47d9f98db0e1cd4fcdd1e8d03c9b92c923", func := "spile/spilelaw15.GaugeTogether", spec := "gaugeTogether", unfollowed := true, recurses := true, named := ["math/bits.divideError", "math/bits.overflowError"], apart := false, narrowed := true }
def GaugeTogetherUptoSaid : Prop := gaugeTogetherUptoRow.holds Try.pinned (OpenSpec.upto gaugeTogetherSpec)

end Rows
end Go.Proofs.Ytiicemgngccicaa
