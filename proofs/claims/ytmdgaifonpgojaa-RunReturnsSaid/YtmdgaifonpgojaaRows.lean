/-
  No cell of these rows narrows 'for every input' (looked for: loops, veiled, ifaces, maps, wideKeys, modest, calm, conditions, laid).
  DERIVED. THE GIVEN ROWS OF THIS SEAT. 7 by the template 'for every input the law returns true; each argument reads behind the call as it read before'; 0 by the template 'total and deterministic' (their statements: YtmdgaifonpgojaaTotals.lean).
  GIVEN WITH THE SEED: the statements are not yours to turn. If you find one false, say at which input.
  Laid BY PROGRAM, IN A SANDBOX (cutbox-rows.mjs): the forced cells as the released guide's own fill.sh prints them over the translation ae6dfb712d8ef860… (all of the seat's roots in one cut). By AI agents, Wed Nov 11 2026. No macro, syntax, notation, axiom, sorry.
-/
import Derived.Test.YtmdgaifonpgojaaChecked
import GoSem.Claim
import GoSem.ClaimJoined
import GoSem.ClaimMapViews
import Derived.JoinedTies
import Derived.KernelRfl
namespace Go.Proofs.Ytmdgaifonpgojaa
/- THE CELL 'sum', in the pinned program and in every row, IS THE sha256 OF THE DUMP (.gsa) THAT YtmdgaifonpgojaaProg.lean LOADS. Nothing in Lean hashes anything: it is a label: what it is worth is what the hold of that sum in a sandbox is worth. -/
noncomputable def Try.pinned : Pinned := { name := "ytmdgaifonpgojaa", sum := "ae6dfb712d8ef860ee5350562074c0503c45ce282a47425f7cdc11c9f39bd55f", checked := Try.checked }
namespace Rows
def none {H : Type} : Left H := { results := [], args := [] }

/-- 'spilelaw35.RunBalances': WHATEVER THE INPUT: true; the input reads as it did. -/
def runBalancesSpec : ChangeSpec := { name := "runBalances", fn := fun _ => fun
  | [d1, d2] => { results := [.lit (.bool true)], args := [d1, d2] }
  | _ => none }
def runBalancesRow : OpenClaim := { program := "ytmdgaifonpgojaa", sum := "ae6dfb712d8ef860ee5350562074c0503c45ce282a47425f7cdc11c9f39bd55f", func := "spile/spilelaw35.RunBalances", spec := "runBalances", unfollowed := true, recurses := true, apart := false }
def RunBalancesSaid : Prop := runBalancesRow.holds Try.pinned (OpenSpec.ofChange runBalancesSpec)

/-- ITS FALSE NEIGHBOUR: 'it returns false'. Refute it at one input. -/
def runBalancesWrong : ChangeSpec := { name := "runBalances", fn := fun _ => fun
  | [d1, d2] => { results := [.lit (.bool false)], args := [d1, d2] }
  | _ => none }
def RunBalancesWrongFalsely : Prop := runBalancesRow.holds Try.pinned (OpenSpec.ofChange runBalancesWrong)

/-- 'spilelaw35.RunWider': WHATEVER THE INPUT: true; the input reads as it did. -/
def runWiderSpec : ChangeSpec := { name := "runWider", fn := fun _ => fun
  | [d1, d2, d3] => { results := [.lit (.bool true)], args := [d1, d2, d3] }
  | _ => none }
def runWiderRow : OpenClaim := { program := "ytmdgaifonpgojaa", sum := "ae6dfb712d8ef860ee5350562074c0503c45ce282a47425f7cdc11c9f39bd55f", func := "spile/spilelaw35.RunWider", spec := "runWider", unfollowed := true, recurses := true, apart := false }
def RunWiderSaid : Prop := runWiderRow.holds Try.pinned (OpenSpec.ofChange runWiderSpec)

/-- ITS FALSE NEIGHBOUR: 'it returns false'. Refute it at one input. -/
def runWiderWrong : ChangeSpec := { name := "runWider", fn := fun _ => fun
  | [d1, d2, d3] => { results := [.lit (.bool false)], args := [d1, d2, d3] }
  | _ => none }
def RunWiderWrongFalsely : Prop := runWiderRow.holds Try.pinned (OpenSpec.ofChange runWiderWrong)

/-- 'spilelaw35.RunSums': WHATEVER THE INPUT: true; the input reads as it did. -/
def runSumsSpec : ChangeSpec := { name := "runSums", fn := fun _ => fun
  | [d1, d2] => { results := [.lit (.bool true)], args := [d1, d2] }
  | _ => none }
def runSumsRow : OpenClaim := { program := "ytmdgaifonpgojaa", sum := "ae6dfb712d8ef860ee5350562074c0503c45ce282a47425f7cdc11c9f39bd55f", func := "spile/spilelaw35.RunSums", spec := "runSums", unfollowed := true, recurses := true, apart := false }
def RunSumsSaid : Prop := runSumsRow.holds Try.pinned (OpenSpec.ofChange runSumsSpec)

/-- ITS FALSE NEIGHBOUR: 'it returns false'. Refute it at one input. -/
def runSumsWrong : ChangeSpec := { name := "runSums", fn := fun _ => fun
  | [d1, d2] => { results := [.lit (.bool false)], args := [d1, d2] }
  | _ => none }
def RunSumsWrongFalsely : Prop := runSumsRow.holds Try.pinned (OpenSpec.ofChange runSumsWrong)

/-- 'spilelaw35.RunCloses': WHATEVER THE INPUT: true; the input reads as it did. -/
def runClosesSpec : ChangeSpec := { name := "runCloses", fn := fun _ => fun
  | [d] => { results := [.lit (.bool true)], args := [d] }
  | _ => none }
def runClosesRow : OpenClaim := { program := "ytmdgaifonpgojaa", sum := "ae6dfb712d8ef860ee5350562074c0503c45ce282a47425f7cdc11c9f39bd55f", func := "spile/spilelaw35.RunCloses", spec := "runCloses", unfollowed := true, recurses := true, apart := false }
def RunClosesSaid : Prop := runClosesRow.holds Try.pinned (OpenSpec.ofChange runClosesSpec)

/-- ITS FALSE NEIGHBOUR: 'it returns false'. Refute it at one input. -/
def runClosesWrong : ChangeSpec := { name := "runCloses", fn := fun _ => fun
  | [d] => { results := [.lit (.bool false)], args := [d] }
  | _ => none }
def RunClosesWrongFalsely : Prop := runClosesRow.holds Try.pinned (OpenSpec.ofChange runClosesWrong)

/-- 'spilelaw35.RunYields': WHATEVER THE INPUT: true; the input reads as it did. -/
def runYieldsSpec : ChangeSpec := { name := "runYields", fn := fun _ => fun
  | [d] => { results := [.lit (.bool true)], args := [d] }
  | _ => none }
def runYieldsRow : OpenClaim := { program := "ytmdgaifonpgojaa", sum := "ae6dfb712d8ef860ee5350562074c0503c45ce282a47425f7cdc11c9f39bd55f", func := "spile/spilelaw35.RunYields", spec := "runYields", unfollowed := true, recurses := true, apart := false }
def RunYieldsSaid : Prop := runYieldsRow.holds Try.pinned (OpenSpec.ofChange runYieldsSpec)

/-- ITS FALSE NEIGHBOUR: 'it returns false'. Refute it at one input. -/
def runYieldsWrong : ChangeSpec := { name := "runYields", fn := fun _ => fun
  | [d] => { results := [.lit (.bool false)], args := [d] }
  | _ => none }
def RunYieldsWrongFalsely : Prop := runYieldsRow.holds Try.pinned (OpenSpec.ofChange runYieldsWrong)

/-- 'spilelaw35.RunChains': WHATEVER THE INPUT: true; the input reads as it did. -/
def runChainsSpec : ChangeSpec := { name := "runChains", fn := fun _ => fun
  | [d] => { results := [.lit (.bool true)], args := [d] }
  | _ => none }
def runChainsRow : OpenClaim := { program := "ytmdgaifonpgojaa", sum := "ae6dfb712d8ef860ee5350562074c0503c45ce282a47425f7cdc11c9f39bd55f", func := "spile/spilelaw35.RunChains", spec := "runChains", unfollowed := true, recurses := true, apart := false }
def RunChainsSaid : Prop := runChainsRow.holds Try.pinned (OpenSpec.ofChange runChainsSpec)

/-- ITS FALSE NEIGHBOUR: 'it returns false'. Refute it at one input. -/
def runChainsWrong : ChangeSpec := { name := "runChains", fn := fun _ => fun
  | [d] => { results := [.lit (.bool false)], args := [d] }
  | _ => none }
def RunChainsWrongFalsely : Prop := runChainsRow.holds Try.pinned (OpenSpec.ofChange runChainsWrong)

/-- 'spilelaw35.RunReturns': WHATEVER THE INPUT: true; the input reads as it did. -/
def runReturnsSpec : ChangeSpec := { name := "runReturns", fn := fun _ => fun
  | [d] => { results := [.lit (.bool true)], args := [d] }
  | _ => none }
def runReturnsRow : OpenClaim := { program := "ytmdgaifonpgojaa", sum := "ae6dfb712d8ef860ee5350562074c0503c45ce282a47425f7cdc11c9f39bd55f", func := "spile/spilelaw35.RunReturns", spec := "runReturns", unfollowed := true, recurses := true, apart := false }
def RunReturnsSaid : Prop := runReturnsRow.holds Try.pinned (OpenSpec.ofChange runReturnsSpec)

/-- ITS FALSE NEIGHBOUR: 'it returns false'. Refute it at one input. -/
def runReturnsWrong : ChangeSpec := { name := "runReturns", fn := fun _ => fun
  | [d] => { results := [.lit (.bool false)], args := [d] }
  | _ => none }
def RunReturnsWrongFalsely : Prop := runReturnsRow.holds Try.pinned (OpenSpec.ofChange runReturnsWrong)

/- THE SECOND FORM. 'bulk': how many values and letters a reading holds, each counted each time it is reached (what is shared counts as often as it is met; a slice's spare places count too). A statement '..UptoSaid' is the law's where the arguments, and the package variables that the reading takes, are together of bulk at most 1048576: NARROWER than '..Said'. Prove '..Said' where nothing that the law and all that it calls make is longer than what came in: it says more and counts as full. Else prove '..UptoSaid'. A law counts once. -/
mutual
def uptoBulk {H : Type} : DataW H → Nat
  | .lit (.string bytes) => bytes.length + 1
  | .lit _ => 1
  | .nil => 1
  | .ptr d => uptoBulk d + 1
  | .slice elems spare => uptoBulkAll elems + uptoBulkAll spare + 1
  | .agg parts => uptoBulkAll parts + 1
  | .iface _ d => uptoBulk d + 1
  | .map entries => uptoBulkEntries entries + 1
  | .held _ => 1
def uptoBulkAll {H : Type} : List (DataW H) → Nat
  | [] => 0
  | d :: r => uptoBulk d + uptoBulkAll r
def uptoBulkEntries {H : Type} : List (Lit × DataW H) → Nat
  | [] => 0
  | x :: r => uptoBulkEntry x + uptoBulkEntries r
def uptoBulkEntry {H : Type} : Lit × DataW H → Nat
  | (.string bytes, d) => bytes.length + uptoBulk d + 1
  | (_, d) => uptoBulk d + 1
 end
def uptoSmall : (H : Type) → List (DataW H) → Bool := fun _ ds => decide (uptoBulkAll ds ≤ 1048576)
def OpenSpec.upto (s : _root_.Go.ChangeSpec) : _root_.Go.OpenSpec := { _root_.Go.OpenSpec.ofChange s with cond := some uptoSmall }

/-- 'spilelaw35.RunBalances', WHERE WHAT IT READS IS OF BULK AT MOST 1048576: true; the input reads as it did. -/
def runBalancesUptoRow : OpenClaim := { program := "ytmdgaifonpgojaa", sum := "ae6dfb712d8ef860ee5350562074c0503c45ce282a47425f7cdc11c9f39bd55f", func := "spile/spilelaw35.RunBalances", spec := "runBalances", unfollowed := true, recurses := true, apart := false, narrowed := true }
def RunBalancesUptoSaid : Prop := runBalancesUptoRow.holds Try.pinned (OpenSpec.upto runBalancesSpec)

/-- 'spilelaw35.RunWider', WHERE WHAT IT READS IS OF BULK AT MOST 1048576: true; the input reads as it did. -/
def runWiderUptoRow : OpenClaim := { program := "ytmdgaifonpgojaa", sum := "ae6dfb712d8ef860ee5350562074c0503c45ce282a47425f7cdc11c9f39bd55f", func := "spile/spilelaw35.RunWider", spec := "runWider", unfollowed := true, recurses := true, apart := false, narrowed := true }
def RunWiderUptoSaid : Prop := runWiderUptoRow.holds Try.pinned (OpenSpec.upto runWiderSpec)

/-- 'spilelaw35.RunSums', WHERE WHAT IT READS IS OF BULK AT MOST 1048576: true; the input reads as it did. -/
def runSumsUptoRow : OpenClaim := { program := "ytmdgaifonpgojaa", sum := "ae6dfb712d8ef860ee5350562074c0503c45ce282a47425f7cdc11c9f39bd55f", func := "spile/spilelaw35.RunSums", spec := "runSums", unfollowed := true, recurses := true, apart := false, narrowed := true }
def RunSumsUptoSaid : Prop := runSumsUptoRow.holds Try.pinned (OpenSpec.upto runSumsSpec)

/-- 'spilelaw35.RunCloses', WHERE WHAT IT READS IS OF BULK AT MOST 1048576: true; the input reads as it did. -/
def runClosesUptoRow : OpenClaim := { program := "ytmdgaifonpgojaa", sum := "ae6dfb712d8ef860ee5350562074c0503c45ce282a47425f7cdc11c9f39bd55f", func := "spile/spilelaw35.RunCloses", spec := "runCloses", unfollowed := true, recurses := true, apart := false, narrowed := true }
def RunClosesUptoSaid : Prop := runClosesUptoRow.holds Try.pinned (OpenSpec.upto runClosesSpec)

/-- 'spilelaw35.RunYields', WHERE WHAT IT READS IS OF BULK AT MOST 1048576: true; the input reads as it did. -/
def runYieldsUptoRow : OpenClaim := { program := "ytmdgaifonpgojaa", sum := "ae6dfb712d8ef860ee5350562074c0503c45ce282a47425f7cdc11c9f39bd55f", func := "spile/spilelaw35.RunYields", spec := "runYields", unfollowed := true, recurses := true, apart := false, narrowed := true }
def RunYieldsUptoSaid : Prop := runYieldsUptoRow.holds Try.pinned (OpenSpec.upto runYieldsSpec)

/-- 'spilelaw35.RunChains', WHERE WHAT IT READS IS OF BULK AT MOST 1048576: true; the input reads as it did. -/
def runChainsUptoRow : OpenClaim := { program := "ytmdgaifonpgojaa", sum := "ae6dfb712d8ef860ee5350562074c0503c45ce282a47425f7cdc11c9f39bd55f", func := "spile/spilelaw35.RunChains", spec := "runChains", unfollowed := true, recurses := true, apart := false, narrowed := true }
def RunChainsUptoSaid : Prop := runChainsUptoRow.holds Try.pinned (OpenSpec.upto runChainsSpec)

/-- 'spilelaw35.RunReturns', WHERE WHAT IT READS IS OF BULK AT MOST 1048576: true; the input reads as it did. -/
def runReturnsUptoRow : OpenClaim := { program := "ytmdgaifonpgojaa", sum := "ae6dfb712d8ef860ee5350562074c0503c45ce282a47425f7cdc11c9f39bd55f", func := "spile/spilelaw35.RunReturns", spec := "runReturns", unfollowed := true, recurses := true, apart := false, narrowed := true }
def RunReturnsUptoSaid : Prop := runReturnsUptoRow.holds Try.pinned (OpenSpec.upto runReturnsSpec)

end Rows
end Go.Proofs.Ytmdgaifonpgojaa
