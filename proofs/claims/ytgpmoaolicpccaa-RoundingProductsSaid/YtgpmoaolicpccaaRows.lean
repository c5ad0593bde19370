/-
  No cell of these rows narrows 'for every input' (looked for: loops, veiled, ifaces, maps, wideKeys, modest, calm, conditions, laid).
  DERIVED. THE GIVEN ROWS OF THIS SEAT. 8 by the template 'for every input the law returns true; each argument reads behind the call as it read before'; 0 by the template 'total and deterministic' (their statements: YtgpmoaolicpccaaTotals.lean).
  GIVEN WITH THE SEED: the statements are not yours to turn. If you find one false, say at which input.
  Laid BY PROGRAM, IN A SANDBOX (cutbox-rows.mjs): the forced cells as the released guide's own fill.sh prints them over the translation 49dcc5043c78fd99… (all of the seat's roots in one cut). By AI agents, Wed Nov 11 2026. No macro, syntax, notation, axiom, sorry.
-/
import Derived.Test.YtgpmoaolicpccaaChecked
import GoSem.Claim
import GoSem.ClaimJoined
import GoSem.ClaimMapViews
import Derived.JoinedTies
import Derived.KernelRfl
namespace Go.Proofs.Ytgpmoaolicpccaa
/- THE CELL 'sum', in the pinned program and in every row, IS THE sha256 OF THE DUMP (.gsa) THAT YtgpmoaolicpccaaProg.lean LOADS. Nothing in Lean hashes anything: it is a label: what it is worth is what the hold of that sum in a sandbox is worth. -/
noncomputable def Try.pinned : Pinned := { name := "ytgpmoaolicpccaa", sum := "49dcc5043c78fd99ecb481bcf1098d0c57536dfd60201ee236360299dd351440", checked := Try.checked }
namespace Rows
def none {H : Type} : Left H := { results := [], args := [] }

/-- 'spilelaw02.RoundingQuotients': WHATEVER THE INPUT: true; the input reads as it did. -/
def roundingQuotientsSpec : ChangeSpec := { name := "roundingQuotients", fn := fun _ => fun
  | [d1, d2, d3] => { results := [.lit (.bool true)], args := [d1, d2, d3] }
  | _ => none }
def roundingQuotientsRow : OpenClaim := { program := "ytgpmoaolicpccaa", sum := "49dcc5043c78fd99ecb481bcf1098d0c57536dfd60201ee236360299dd351440", func := "spile/spilelaw02.RoundingQuotients", spec := "roundingQuotients", unfollowed := true, recurses := true, named := ["math/bits.divideError", "math/bits.overflowError"], apart := false }
def RoundingQuotientsSaid : Prop := roundingQuotientsRow.holds Try.pinned (OpenSpec.ofChange roundingQuotientsSpec)

/-- ITS FALSE NEIGHBOUR: 'it returns false'. Refute it at one input. -/
def roundingQuotientsWrong : ChangeSpec := { name := "roundingQuotients", fn := fun _ => fun
  | [d1, d2, d3] => { results := [.lit (.bool false)], args := [d1, d2, d3] }
  | _ => none }
def RoundingQuotientsWrongFalsely : Prop := roundingQuotientsRow.holds Try.pinned (OpenSpec.ofChange roundingQuotientsWrong)

/-- 'spilelaw02.RoundingProducts': WHATEVER THE INPUT: true; the input reads as it did. -/
def roundingProductsSpec : ChangeSpec := { name := "roundingProducts", fn := fun _ => fun
  | [d1, d2] => { results := [.lit (.bool true)], args := [d1, d2] }
  | _ => none }
def roundingProductsRow : OpenClaim := { program := "ytgpmoaolicpccaa", sum := "49dcc5043c78fd99ecb481bcf1098d0c57536dfd60201ee236360299dd351440", func := "spile/spilelaw02.RoundingProducts", spec := "roundingProducts", unfollowed := true, recurses := true, named := ["math/bits.divideError", "math/bits.overflowError"], apart := false }
def RoundingProductsSaid : Prop := roundingProductsRow.holds Try.pinned (OpenSpec.ofChange roundingProductsSpec)

/-- ITS FALSE NEIGHBOUR: 'it returns false'. Refute it at one input. -/
def roundingProductsWrong : ChangeSpec := { name := "roundingProducts", fn := fun _ => fun
  | [d1, d2] => { results := [.lit (.bool false)], args := [d1, d2] }
  | _ => none }
def RoundingProductsWrongFalsely : Prop := roundingProductsRow.holds Try.pinned (OpenSpec.ofChange roundingProductsWrong)

/-- 'spilelaw02.RoundingNear': WHATEVER THE INPUT: true; the input reads as it did. -/
def roundingNearSpec : ChangeSpec := { name := "roundingNear", fn := fun _ => fun
  | [d1, d2, d3] => { results := [.lit (.bool true)], args := [d1, d2, d3] }
  | _ => none }
def roundingNearRow : OpenClaim := { program := "ytgpmoaolicpccaa", sum := "49dcc5043c78fd99ecb481bcf1098d0c57536dfd60201ee236360299dd351440", func := "spile/spilelaw02.RoundingNear", spec := "roundingNear", unfollowed := true, recurses := true, named := ["math/bits.divideError", "math/bits.overflowError"], apart := false }
def RoundingNearSaid : Prop := roundingNearRow.holds Try.pinned (OpenSpec.ofChange roundingNearSpec)

/-- ITS FALSE NEIGHBOUR: 'it returns false'. Refute it at one input. -/
def roundingNearWrong : ChangeSpec := { name := "roundingNear", fn := fun _ => fun
  | [d1, d2, d3] => { results := [.lit (.bool false)], args := [d1, d2, d3] }
  | _ => none }
def RoundingNearWrongFalsely : Prop := roundingNearRow.holds Try.pinned (OpenSpec.ofChange roundingNearWrong)

/-- 'spilelaw02.RoundingOrder': WHATEVER THE INPUT: true; the input reads as it did. -/
def roundingOrderSpec : ChangeSpec := { name := "roundingOrder", fn := fun _ => fun
  | [d1, d2, d3, d4] => { results := [.lit (.bool true)], args := [d1, d2, d3, d4] }
  | _ => none }
def roundingOrderRow : OpenClaim := { program := "ytgpmoaolicpccaa", sum := "49dcc5043c78fd99ecb481bcf1098d0c57536dfd60201ee236360299dd351440", func := "spile/spilelaw02.RoundingOrder", spec := "roundingOrder", unfollowed := true, recurses := true, named := ["math/bits.divideError", "math/bits.overflowError"], apart := false }
def RoundingOrderSaid : Prop := roundingOrderRow.holds Try.pinned (OpenSpec.ofChange roundingOrderSpec)

/-- ITS FALSE NEIGHBOUR: 'it returns false'. Refute it at one input. -/
def roundingOrderWrong : ChangeSpec := { name := "roundingOrder", fn := fun _ => fun
  | [d1, d2, d3, d4] => { results := [.lit (.bool false)], args := [d1, d2, d3, d4] }
  | _ => none }
def RoundingOrderWrongFalsely : Prop := roundingOrderRow.holds Try.pinned (OpenSpec.ofChange roundingOrderWrong)

/-- 'spilelaw02.RoundingSteps': WHATEVER THE INPUT: true; the input reads as it did. -/
def roundingStepsSpec : ChangeSpec := { name := "roundingSteps", fn := fun _ => fun
  | [d1, d2, d3] => { results := [.lit (.bool true)], args := [d1, d2, d3] }
  | _ => none }
def roundingStepsRow : OpenClaim := { program := "ytgpmoaolicpccaa", sum := "49dcc5043c78fd99ecb481bcf1098d0c57536dfd60201ee236360299dd351440", func := "spile/spilelaw02.RoundingSteps", spec := "roundingSteps", unfollowed := true, recurses := true, named := ["math/bits.divideError", "math/bits.overflowError"], apart := false }
def RoundingStepsSaid : Prop := roundingStepsRow.holds Try.pinned (OpenSpec.ofChange roundingStepsSpec)

/-- ITS FALSE NEIGHBOUR: 'it returns false'. Refute it at one input. -/
def roundingStepsWrong : ChangeSpec := { name := "roundingSteps", fn := fun _ => fun
  | [d1, d2, d3] => { results := [.lit (.bool false)], args := [d1, d2, d3] }
  | _ => none }
def RoundingStepsWrongFalsely : Prop := roundingStepsRow.holds Try.pinned (OpenSpec.ofChange roundingStepsWrong)

/-- 'spilelaw02.RoundingAgrees': WHATEVER THE INPUT: true; the input reads as it did. -/
def roundingAgreesSpec : ChangeSpec := { name := "roundingAgrees", fn := fun _ => fun
  | [d1, d2] => { results := [.lit (.bool true)], args := [d1, d2] }
  | _ => none }
def roundingAgreesRow : OpenClaim := { program := "ytgpmoaolicpccaa", sum := "49dcc5043c78fd99ecb481bcf1098d0c57536dfd60201ee236360299dd351440", func := "spile/spilelaw02.RoundingAgrees", spec := "roundingAgrees", unfollowed := true, recurses := true, named := ["math/bits.divideError", "math/bits.overflowError"], apart := false }
def RoundingAgreesSaid : Prop := roundingAgreesRow.holds Try.pinned (OpenSpec.ofChange roundingAgreesSpec)

/-- ITS FALSE NEIGHBOUR: 'it returns false'. Refute it at one input. -/
def roundingAgreesWrong : ChangeSpec := { name := "roundingAgrees", fn := fun _ => fun
  | [d1, d2] => { results := [.lit (.bool false)], args := [d1, d2] }
  | _ => none }
def RoundingAgreesWrongFalsely : Prop := roundingAgreesRow.holds Try.pinned (OpenSpec.ofChange roundingAgreesWrong)

/-- 'spilelaw02.RoundingWords': WHATEVER THE INPUT: true; the input reads as it did. -/
def roundingWordsSpec : ChangeSpec := { name := "roundingWords", fn := fun _ => fun
  | [d1, d2, d3, d4] => { results := [.lit (.bool true)], args := [d1, d2, d3, d4] }
  | _ => none }
def roundingWordsRow : OpenClaim := { program := "ytgpmoaolicpccaa", sum := "49dcc5043c78fd99ecb481bcf1098d0c57536dfd60201ee236360299dd351440", func := "spile/spilelaw02.RoundingWords", spec := "roundingWords", unfollowed := true, recurses := true, named := ["math/bits.divideError", "math/bits.overflowError"], apart := false }
def RoundingWordsSaid : Prop := roundingWordsRow.holds Try.pinned (OpenSpec.ofChange roundingWordsSpec)

/-- ITS FALSE NEIGHBOUR: 'it returns false'. Refute it at one input. -/
def roundingWordsWrong : ChangeSpec := { name := "roundingWords", fn := fun _ => fun
  | [d1, d2, d3, d4] => { results := [.lit (.bool false)], args := [d1, d2, d3, d4] }
  | _ => none }
def RoundingWordsWrongFalsely : Prop := roundingWordsRow.holds Try.pinned (OpenSpec.ofChange roundingWordsWrong)

/-- 'spilelaw02.RoundingTotals': WHATEVER THE INPUT: true; the input reads as it did. -/
def roundingTotalsSpec : ChangeSpec := { name := "roundingTotals", fn := fun _ => fun
  | [d1, d2, d3] => { results := [.lit (.bool true)], args := [d1, d2, d3] }
  | _ => none }
def roundingTotalsRow : OpenClaim := { program := "ytgpmoaolicpccaa", sum := "49dcc5043c78fd99ecb481bcf1098d0c57536dfd60201ee236360299dd351440", func := "spile/spilelaw02.RoundingTotals", spec := "roundingTotals", unfollowed := true, recurses := true, named := ["math/bits.divideError", "math/bits.overflowError"], apart := false }
def RoundingTotalsSaid : Prop := roundingTotalsRow.holds Try.pinned (OpenSpec.ofChange roundingTotalsSpec)

/-- ITS FALSE NEIGHBOUR: 'it returns false'. Refute it at one input. -/
def roundingTotalsWrong : ChangeSpec := { name := "roundingTotals", fn := fun _ => fun
  | [d1, d2, d3] => { results := [.lit (.bool false)], args := [d1, d2, d3] }
  | _ => none }
def RoundingTotalsWrongFalsely : Prop := roundingTotalsRow.holds Try.pinned (OpenSpec.ofChange roundingTotalsWrong)

/- THE SECOND FORM. 'bulk': how many values and letters a reading holds, each counted each time it is reached (what is shared counts as often as it is met; a slice's spare places count too). A statement '..UptoSaid' is the law's where the arguments, and the package variables that the reading takes, are together of bulk at most 1048576: NARROWER than '..Said'. Prove '..Said' where nothing that the law and all that it calls make is longer than what came in: it says more and counts as full. Else prove '..UptoSaid'. A law counts once. -/
mutual
def uptoBulk {H : Type} : DataW H → Nat
  | .lit (.string bytes) => bytes.length + 1
  | .lit _ => 1
  | .nil => 1
  | .ptr d => uptoBulk d + 1
  | .slice elems spare => uptoBulkAll elems + uptoBulkAll spare + 1
  | .agg parts => uptoBulkAll parts + 1
  | .iface _ d => uptoBulk d + 1
  | .map entries => uptoBulkEntries entries + 1
  | .held _ => 1
def uptoBulkAll {H : Type} : List (DataW H) → Nat
  | [] => 0
  | d :: r => uptoBulk d + uptoBulkAll r
def uptoBulkEntries {H : Type} : List (Lit × DataW H) → Nat
  | [] => 0
  | x :: r => uptoBulkEntry x + uptoBulkEntries r
def uptoBulkEntry {H : Type} : Lit × DataW H → Nat
  | (.string bytes, d) => bytes.length + uptoBulk d + 1
  | (_, d) => uptoBulk d + 1
 end
def uptoSmall : (H : Type) → List (DataW H) → Bool := fun _ ds => decide (uptoBulkAll ds ≤ 1048576)
def OpenSpec.upto (s : _root_.Go.ChangeSpec) : _root_.Go.OpenSpec := { _root_.Go.OpenSpec.ofChange s with cond := some uptoSmall }

/-- 'spilelaw02.RoundingQuotients', WHERE WHAT IT READS IS OF BULK AT MOST 1048576: true; the input reads as it did. -/
def roundingQuotientsUptoRow : OpenClaim := { program := "ytgpmoaolicpccaa", sum := "49dcc5043c78fd99ecb481bcf1098d0c57536dfd60201ee236360299dd351440", func := "spile/spilelaw02.RoundingQuotients", spec := "roundingQuotients", unfollowed := true, recurses := true, named := ["math/bits.divideError", "math/bits.overflowError"], apart := false, narrowed := true }
def RoundingQuotientsUptoSaid : Prop := roundingQuotientsUptoRow.holds Try.pinned (OpenSpec.upto roundingQuotientsSpec)

/-- 'spilelaw02.RoundingProducts', WHERE WHAT IT READS IS OF BULK AT MOST 1048576: true; the input reads as it did. -/
def roundingProductsUptoRow : OpenClaim := { program := "ytgpmoaolicpccaa", sum := "49dcc5043c78fd99ecb481bcf1098d0c57536dfd60201ee236360299dd351440", func := "spile/spilelaw02.RoundingProducts", spec := "roundingProducts", unfollowed := true, recurses := true, named := ["math/bits.divideError", "math/bits.overflowError"], apart := false, narrowed := true }
def RoundingProductsUptoSaid : Prop := roundingProductsUptoRow.holds Try.pinned (OpenSpec.upto roundingProductsSpec)

/-- 'spilelaw02.RoundingNear', WHERE WHAT IT READS IS OF BULK AT MOST 1048576: true; the input reads as it did. -/
def roundingNearUptoRow : OpenClaim := { program := "ytgpmoaolicpccaa", sum := "49dcc5043c78fd99ecb481bcf1098d0c57536dfd60201ee236360299dd351440", func := "spile/spilelaw02.RoundingNear", spec := "roundingNear", unfollowed := true, recurses := true, named := ["math/bits.divideError", "math/bits.overflowError"], apart := false, narrowed := true }
def RoundingNearUptoSaid : Prop := roundingNearUptoRow.holds Try.pinned (OpenSpec.upto roundingNearSpec)

/-- 'spilelaw02.RoundingOrder', WHERE WHAT IT READS IS OF BULK AT MOST 1048576: true; the input reads as it did. -/
def roundingOrderUptoRow : OpenClaim := { program := "ytgpmoaolicpccaa", sum := "49dcc5043c78fd99ecb481bcf1098d0c57536dfd60201ee236360299dd351440", func := "spile/spilelaw02.RoundingOrder", spec := "roundingOrder", unfollowed := true, recurses := true, named := ["math/bits.divideError", "math/bits.overflowError"], apart := false, narrowed := true }
def RoundingOrderUptoSaid : Prop := roundingOrderUptoRow.holds Try.pinned (OpenSpec.upto roundingOrderSpec)

/-- 'spilelaw02.RoundingSteps', WHERE WHAT IT READS IS OF BULK AT MOST 1048576: true; the input reads as it did. -/
def roundingStepsUptoRow : OpenClaim := { program := "ytgpmoaolicpccaa", sum := "49dcc5043c78fd99ecb481bcf1098d0c57536dfd60201ee236360299dd351440", func := "spile/spilelaw02.RoundingSteps", spec := "roundingSteps", unfollowed := true, recurses := true, named := ["math/bits.divideError", "math/bits.overflowError"], apart := false, narrowed := true }
def RoundingStepsUptoSaid : Prop := roundingStepsUptoRow.holds Try.pinned (OpenSpec.upto roundingStepsSpec)

/-- 'spilelaw02.RoundingAgrees', WHERE WHAT IT READS IS OF BULK AT MOST 1048576: true; the input reads as it did. -/
def roundingAgreesUptoRow : OpenClaim := { program := "ytgpmoaolicpccaa", sum := "49dcc5043c78fd99ecb481bcf1098d0c57536dfd60201ee236360299dd351440", func := "spile/spilelaw02.RoundingAgrees", spec := "roundingAgrees", unfollowed := true, recurses := true, named := ["math/bits.divideError", "math/bits.overflowError"], apart := false, narrowed := true }
def RoundingAgreesUptoSaid : Prop := roundingAgreesUptoRow.holds Try.pinned (OpenSpec.upto roundingAgreesSpec)

/-- 'spilelaw02.RoundingWords', WHERE WHAT IT READS IS OF BULK AT MOST 1048576: true; the input reads as it did. -/
def roundingWordsUptoRow : OpenClaim := { program := "ytgpmoaolicpccaa", sum := "49dcc5043c78fd99ecb481bcf1098d0c57536dfd60201ee236360299dd351440", func := "spile/spilelaw02.RoundingWords", spec := "roundingWords", unfollowed := true, recurses := true, named := ["math/bits.divideError", "math/bits.overflowError"], apart := false, narrowed := true }
def RoundingWordsUptoSaid : Prop := roundingWordsUptoRow.holds Try.pinned (OpenSpec.upto roundingWordsSpec)

/-- 'spilelaw02.RoundingTotals', WHERE WHAT IT READS IS OF BULK AT MOST 1048576: true; the input reads as it did. -/
def roundingTotalsUptoRow : OpenClaim := { program := "ytgpmoaolicpccaa", sum := "49dcc5043c78fd99ecb481bcf1098d0c57536dfd60201ee236360299dd351440", func := "spile/spilelaw02.RoundingTotals", spec := "roundingTotals", unfollowed := true, recurses := true, named := ["math/bits.divideError", "math/bits.overflowError"], apart := false, narrowed := true }
def RoundingTotalsUptoSaid : Prop := roundingTotalsUptoRow.holds Try.pinned (OpenSpec.upto roundingTotalsSpec)

end Rows
end Go.Proofs.Ytgpmoaolicpccaa
