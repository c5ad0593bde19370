/-
  No cell of these rows narrows 'for every input' (looked for: loops, veiled, ifaces, maps, wideKeys, modest, calm, conditions, laid).
  DERIVED. THE GIVEN ROWS OF THIS SEAT. 7 by the template 'for every input the law returns true; each argument reads behind the call as it read before'; 0 by the template 'total and deterministic' (their statements: YtnoejcejkdkaeaaTotals.lean).
  GIVEN WITH THE SEED: the statements are not yours to turn. If you find one false, say at which input.
  Laid BY PROGRAM, IN A SANDBOX (cutbox-rows.mjs): the forced cells as the released guide's own fill.sh prints them over the translation 4f45d2213ea78873… (all of the seat's roots in one cut). By AI agents, Wed Nov 11 2026. No macro, syntax, notation, axiom, sorry.
-/
import Derived.Test.YtnoejcejkdkaeaaChecked
import GoSem.Claim
import GoSem.ClaimJoined
import GoSem.ClaimMapViews
import Derived.JoinedTies
import Derived.KernelRfl
namespace Go.Proofs.Ytnoejcejkdkaeaa
/- THE CELL 'sum', in the pinned program and in every row, IS THE sha256 OF THE DUMP (.gsa) THAT YtnoejcejkdkaeaaProg.lean LOADS. Nothing in Lean hashes anything: it is a label: what it is worth is what the hold of that sum in a sandbox is worth. -/
noncomputable def Try.pinned : Pinned := { name := "ytnoejcejkdkaeaa", sum := "4f45d2213ea78873f0d5fff326427488abe0d16c27f7d665157b04b1b92cebfb", checked := Try.checked }
namespace Rows
def none {H : Type} : Left H := { results := [], args := [] }

/-- 'spilelaw37.MatchAlone': WHATEVER THE INPUT: true; the input reads as it did. -/
def matchAloneSpec : ChangeSpec := { name := "matchAlone", fn := fun _ => fun
  | [d] => { results := [.lit (.bool true)], args := [d] }
  | _ => none }
def matchAloneRow : OpenClaim := { program := "ytnoejcejkdkaeaa", sum := "4f45d2213ea78873f0d5fff326427488abe0d16c27f7d665157b04b1b92cebfb", func := "spile/spilelaw37.MatchAlone", spec := "matchAlone", unfollowed := true, recurses := true, apart := false }
def MatchAloneSaid : Prop := matchAloneRow.holds Try.pinned (OpenSpec.ofChange matchAloneSpec)

/-- ITS FALSE NEIGHBOUR: 'it returns false'. Refute it at one input. -/
def matchAloneWrong : ChangeSpec := { name := "matchAlone", fn := fun _ => fun
  | [d] => { results := [.lit (.bool false)], args := [d] }
  | _ => none }
def MatchAloneWrongFalsely : Prop := matchAloneRow.holds Try.pinned (OpenSpec.ofChange matchAloneWrong)

/-- 'spilelaw37.MatchSizes': WHATEVER THE INPUT: true; the input reads as it did. -/
def matchSizesSpec : ChangeSpec := { name := "matchSizes", fn := fun _ => fun
  | [d1, d2, d3] => { results := [.lit (.bool true)], args := [d1, d2, d3] }
  | _ => none }
def matchSizesRow : OpenClaim := { program := "ytnoejcejkdkaeaa", sum := "4f45d2213ea78873f0d5fff326427488abe0d16c27f7d665157b04b1b92cebfb", func := "spile/spilelaw37.MatchSizes", spec := "matchSizes", unfollowed := true, recurses := true, apart := false }
def MatchSizesSaid : Prop := matchSizesRow.holds Try.pinned (OpenSpec.ofChange matchSizesSpec)

/-- ITS FALSE NEIGHBOUR: 'it returns false'. Refute it at one input. -/
def matchSizesWrong : ChangeSpec := { name := "matchSizes", fn := fun _ => fun
  | [d1, d2, d3] => { results := [.lit (.bool false)], args := [d1, d2, d3] }
  | _ => none }
def MatchSizesWrongFalsely : Prop := matchSizesRow.holds Try.pinned (OpenSpec.ofChange matchSizesWrong)

/-- 'spilelaw37.MatchVerifies': WHATEVER THE INPUT: true; the input reads as it did. -/
def matchVerifiesSpec : ChangeSpec := { name := "matchVerifies", fn := fun _ => fun
  | [d1, d2, d3] => { results := [.lit (.bool true)], args := [d1, d2, d3] }
  | _ => none }
def matchVerifiesRow : OpenClaim := { program := "ytnoejcejkdkaeaa", sum := "4f45d2213ea78873f0d5fff326427488abe0d16c27f7d665157b04b1b92cebfb", func := "spile/spilelaw37.MatchVerifies", spec := "matchVerifies", unfollowed := true, recurses := true, apart := false }
def MatchVerifiesSaid : Prop := matchVerifiesRow.holds Try.pinned (OpenSpec.ofChange matchVerifiesSpec)

/-- ITS FALSE NEIGHBOUR: 'it returns false'. Refute it at one input. -/
def matchVerifiesWrong : ChangeSpec := { name := "matchVerifies", fn := fun _ => fun
  | [d1, d2, d3] => { results := [.lit (.bool false)], args := [d1, d2, d3] }
  | _ => none }
def MatchVerifiesWrongFalsely : Prop := matchVerifiesRow.holds Try.pinned (OpenSpec.ofChange matchVerifiesWrong)

/-- 'spilelaw37.MatchProves': WHATEVER THE INPUT: true; the input reads as it did. -/
def matchProvesSpec : ChangeSpec := { name := "matchProves", fn := fun _ => fun
  | [d1, d2, d3] => { results := [.lit (.bool true)], args := [d1, d2, d3] }
  | _ => none }
def matchProvesRow : OpenClaim := { program := "ytnoejcejkdkaeaa", sum := "4f45d2213ea78873f0d5fff326427488abe0d16c27f7d665157b04b1b92cebfb", func := "spile/spilelaw37.MatchProves", spec := "matchProves", unfollowed := true, recurses := true, apart := false }
def MatchProvesSaid : Prop := matchProvesRow.holds Try.pinned (OpenSpec.ofChange matchProvesSpec)

/-- ITS FALSE NEIGHBOUR: 'it returns false'. Refute it at one input. -/
def matchProvesWrong : ChangeSpec := { name := "matchProves", fn := fun _ => fun
  | [d1, d2, d3] => { results := [.lit (.bool false)], args := [d1, d2, d3] }
  | _ => none }
def MatchProvesWrongFalsely : Prop := matchProvesRow.holds Try.pinned (OpenSpec.ofChange matchProvesWrong)

/-- 'spilelaw37.MatchTurned': WHATEVER THE INPUT: true; the input reads as it did. -/
def matchTurnedSpec : ChangeSpec := { name := "matchTurned", fn := fun _ => fun
  | [d1, d2] => { results := [.lit (.bool true)], args := [d1, d2] }
  | _ => none }
def matchTurnedRow : OpenClaim := { program := "ytnoejcejkdkaeaa", sum := "4f45d2213ea78873f0d5fff326427488abe0d16c27f7d665157b04b1b92cebfb", func := "spile/spilelaw37.MatchTurned", spec := "matchTurned", unfollowed := true, recurses := true, apart := false }
def MatchTurnedSaid : Prop := matchTurnedRow.holds Try.pinned (OpenSpec.ofChange matchTurnedSpec)

/-- ITS FALSE NEIGHBOUR: 'it returns false'. Refute it at one input. -/
def matchTurnedWrong : ChangeSpec := { name := "matchTurned", fn := fun _ => fun
  | [d1, d2] => { results := [.lit (.bool false)], args := [d1, d2] }
  | _ => none }
def MatchTurnedWrongFalsely : Prop := matchTurnedRow.holds Try.pinned (OpenSpec.ofChange matchTurnedWrong)

/-- 'spilelaw37.MatchLacks': WHATEVER THE INPUT: true; the input reads as it did. -/
def matchLacksSpec : ChangeSpec := { name := "matchLacks", fn := fun _ => fun
  | [d1, d2] => { results := [.lit (.bool true)], args := [d1, d2] }
  | _ => none }
def matchLacksRow : OpenClaim := { program := "ytnoejcejkdkaeaa", sum := "4f45d2213ea78873f0d5fff326427488abe0d16c27f7d665157b04b1b92cebfb", func := "spile/spilelaw37.MatchLacks", spec := "matchLacks", unfollowed := true, recurses := true, apart := false }
def MatchLacksSaid : Prop := matchLacksRow.holds Try.pinned (OpenSpec.ofChange matchLacksSpec)

/-- ITS FALSE NEIGHBOUR: 'it returns false'. Refute it at one input. -/
def matchLacksWrong : ChangeSpec := { name := "matchLacks", fn := fun _ => fun
  | [d1, d2] => { results := [.lit (.bool false)], args := [d1, d2] }
  | _ => none }
def MatchLacksWrongFalsely : Prop := matchLacksRow.holds Try.pinned (OpenSpec.ofChange matchLacksWrong)

/-- 'spilelaw37.MatchEdges': WHATEVER THE INPUT: true; the input reads as it did. -/
def matchEdgesSpec : ChangeSpec := { name := "matchEdges", fn := fun _ => fun
  | [d1, d2, d3] => { results := [.lit (.bool true)], args := [d1, d2, d3] }
  | _ => none }
def matchEdgesRow : OpenClaim := { program := "ytnoejcejkdkaeaa", sum := "4f45d2213ea78873f0d5fff326427488abe0d16c27f7d665157b04b1b92cebfb", func := "spile/spilelaw37.MatchEdges", spec := "matchEdges", unfollowed := true, recurses := true, apart := false }
def MatchEdgesSaid : Prop := matchEdgesRow.holds Try.pinned (OpenSpec.ofChange matchEdgesSpec)

/-- ITS FALSE NEIGHBOUR: 'it returns false'. Refute it at one input. -/
def matchEdgesWrong : ChangeSpec := { name := "matchEdges", fn := fun _ => fun
  | [d1, d2, d3] => { results := [.lit (.bool false)], args := [d1, d2, d3] }
  | _ => none }
def MatchEdgesWrongFalsely : Prop := matchEdgesRow.holds Try.pinned (OpenSpec.ofChange matchEdgesWrong)

/- THE SECOND FORM. 'bulk': how many values and letters a reading holds, each counted each time it is reached (what is shared counts as often as it is met; a slice's spare places count too). A statement '..UptoSaid' is the law's where the arguments, and the package variables that the reading takes, are together of bulk at most 1048576: NARROWER than '..Said'. Prove '..Said' where nothing that the law and all that it calls make is longer than what came in: it says more and counts as full. Else prove '..UptoSaid'. A law counts once. -/
mutual
def uptoBulk {H : Type} : DataW H → Nat
  | .lit (.string bytes) => bytes.length + 1
  | .lit _ => 1
  | .nil => 1
  | .ptr d => uptoBulk d + 1
  | .slice elems spare => uptoBulkAll elems + uptoBulkAll spare + 1
  | .agg parts => uptoBulkAll parts + 1
  | .iface _ d => uptoBulk d + 1
  | .map entries => uptoBulkEntries entries + 1
  | .held _ => 1
def uptoBulkAll {H : Type} : List (DataW H) → Nat
  | [] => 0
  | d :: r => uptoBulk d + uptoBulkAll r
def uptoBulkEntries {H : Type} : List (Lit × DataW H) → Nat
  | [] => 0
  | x :: r => uptoBulkEntry x + uptoBulkEntries r
def uptoBulkEntry {H : Type} : Lit × DataW H → Nat
  | (.string bytes, d) => bytes.length + uptoBulk d + 1
  | (_, d) => uptoBulk d + 1
 end
def uptoSmall : (H : Type) → List (DataW H) → Bool := fun _ ds => decide (uptoBulkAll ds ≤ 1048576)
def OpenSpec.upto (s : _root_.Go.ChangeSpec) : _root_.Go.OpenSpec := { _root_.Go.OpenSpec.ofChange s with cond := some uptoSmall }

/-- 'spilelaw37.MatchAlone', WHERE WHAT IT READS IS OF BULK AT MOST 1048576: true; the input reads as it did. -/
def matchAloneUptoRow : OpenClaim := { program := "ytnoejcejkdkaeaa", sum := "4f45d2213ea78873f0d5fff326427488abe0d16c27f7d665157b04b1b92cebfb", func := "spile/spilelaw37.MatchAlone", spec := "matchAlone", unfollowed := true, recurses := true, apart := false, narrowed := true }
def MatchAloneUptoSaid : Prop := matchAloneUptoRow.holds Try.pinned (OpenSpec.upto matchAloneSpec)

/-- 'spilelaw37.MatchSizes', WHERE WHAT IT READS IS OF BULK AT MOST 1048576: true; the input reads as it did. -/
def matchSizesUptoRow : OpenClaim := { program := "ytnoejcejkdkaeaa", sum := "4f45d2213ea78873f0d5fff326427488abe0d16c27f7d665157b04b1b92cebfb", func := "spile/spilelaw37.MatchSizes", spec := "matchSizes", unfollowed := true, recurses := true, apart := false, narrowed := true }
def MatchSizesUptoSaid : Prop := matchSizesUptoRow.holds Try.pinned (OpenSpec.upto matchSizesSpec)

/-- 'spilelaw37.MatchVerifies', WHERE WHAT IT READS IS OF BULK AT MOST 1048576: true; the input reads as it did. -/
def matchVerifiesUptoRow : OpenClaim := { program := "ytnoejcejkdkaeaa", sum := "4f45d2213ea78873f0d5fff326427488abe0d16c27f7d665157b04b1b92cebfb", func := "spile/spilelaw37.MatchVerifies", spec := "matchVerifies", unfollowed := true, recurses := true, apart := false, narrowed := true }
def MatchVerifiesUptoSaid : Prop := matchVerifiesUptoRow.holds Try.pinned (OpenSpec.upto matchVerifiesSpec)

/-- 'spilelaw37.MatchProves', WHERE WHAT IT READS IS OF BULK AT MOST 1048576: true; the input reads as it did. -/
def matchProvesUptoRow : OpenClaim := { program := "ytnoejcejkdkaeaa", sum := "4f45d2213ea78873f0d5fff326427488abe0d16c27f7d665157b04b1b92cebfb", func := "spile/spilelaw37.MatchProves", spec := "matchProves", unfollowed := true, recurses := true, apart := false, narrowed := true }
def MatchProvesUptoSaid : Prop := matchProvesUptoRow.holds Try.pinned (OpenSpec.upto matchProvesSpec)

/-- 'spilelaw37.MatchTurned', WHERE WHAT IT READS IS OF BULK AT MOST 1048576: true; the input reads as it did. -/
def matchTurnedUptoRow : OpenClaim := { program := "ytnoejcejkdkaeaa", sum := "4f45d2213ea78873f0d5fff326427488abe0d16c27f7d665157b04b1b92cebfb", func := "spile/spilelaw37.MatchTurned", spec := "matchTurned", unfollowed := true, recurses := true, apart := false, narrowed := true }
def MatchTurnedUptoSaid : Prop := matchTurnedUptoRow.holds Try.pinned (OpenSpec.upto matchTurnedSpec)

/-- 'spilelaw37.MatchLacks', WHERE WHAT IT READS IS OF BULK AT MOST 1048576: true; the input reads as it did. -/
def matchLacksUptoRow : OpenClaim := { program := "ytnoejcejkdkaeaa", sum := "4f45d2213ea78873f0d5fff326427488abe0d16c27f7d665157b04b1b92cebfb", func := "spile/spilelaw37.MatchLacks", spec := "matchLacks", unfollowed := true, recurses := true, apart := false, narrowed := true }
def MatchLacksUptoSaid : Prop := matchLacksUptoRow.holds Try.pinned (OpenSpec.upto matchLacksSpec)

/-- 'spilelaw37.MatchEdges', WHERE WHAT IT READS IS OF BULK AT MOST 1048576: true; the input reads as it did. -/
def matchEdgesUptoRow : OpenClaim := { program := "ytnoejcejkdkaeaa", sum := "4f45d2213ea78873f0d5fff326427488abe0d16c27f7d665157b04b1b92cebfb", func := "spile/spilelaw37.MatchEdges", spec := "matchEdges", unfollowed := true, recurses := true, apart := false, narrowed := true }
def MatchEdgesUptoSaid : Prop := matchEdgesUptoRow.holds Try.pinned (OpenSpec.upto matchEdgesSpec)

end Rows
end Go.Proofs.Ytnoejcejkdkaeaa
