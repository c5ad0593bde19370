/- Chapter 02: the words of the rules, in the program and in the reference. -/
import Derived.Test.YtiicemgngccicaaE
set_option linter.unusedVariables false
set_option linter.unusedSimpArgs false
namespace Go.Proofs.Ytiicemgngccicaa
open Go.Sx Go.RowKit
abbrev wD : ByteArray := ⟨#[100, 111, 119, 110]⟩
abbrev wU : ByteArray := ⟨#[117, 112]⟩
abbrev wH : ByteArray := ⟨#[104, 97, 108, 102, 45, 117, 112]⟩
abbrev wE : ByteArray := ⟨#[104, 97, 108, 102, 45, 101, 118, 101, 110]⟩
abbrev w0 : ByteArray := ⟨#[]⟩
def WS : List ByteArray := [w0, wD, wU, wH, wE]
def elS (l : List ByteArray) (i : Nat) : List Value := [.string (l.getD i w0)]
theorem words_any (w : World) : Calls Try.prog 93 #[] w fun e w' => ∃ A c, e = .returned (.slice A 5 c) ∧ RdNew w w' A 5 1 (elS WS) ∧ Below w.heap.size w w' := by
  refine enterRow tfine 5 1 (elS WS) Try.func93 rfl 2 Try.ntmps93 [] [] rfl rfl trivial trivial ?_
  refine G.seqR tfine rfl trivial ?_
  refine G.seqR tfine rfl trivial ?_
  refine G.ret (endRow.ret rfl ⟨rfl, rfl, WS.map .string, rfl, by decide, fun i hi => ?_⟩)
  rcases (show i = 0 ∨ i = 1 ∨ i = 2 ∨ i = 3 ∨ i = 4 by omega) with rfl | rfl | rfl | rfl | rfl <;> rfl
def wordS (r : Int) : ByteArray := if (!isB r) = true then w0 else WS.getD r.toNat w0
theorem word_any (r : Int) (w : World) : Calls Try.prog 85 #[I r] w fun e w' => e = .returned (.string (wordS r)) ∧ Below w.heap.size w w' := by
  refine enterPlain tfine Try.func85 rfl 10 Try.ntmps85 [.c (.k (I r))] [] rfl rfl trivial ⟨trivial, trivial⟩ ?_
  refine G.seqR tfine rfl trivial ?_
  refine G.seq (G.seqC tfine rfl trivial ?_)
  refine GO.callPlain rfl rfl rfl rfl (fun args w => Try.call86 args w) (fun ρ w hm _ => is_any _ w) ?_
  refine GO.fin tfine rfl trivial ?_
  refine G.cond rfl (fun h => ?_) (fun h => ?_)
  · refine G.seqR tfine rfl trivial ?_
    refine G.ret (endK.ret rfl ?_)
    rw [wordS, h]; rfl
  refine G.skip ?_
  have hk := isB_true (r := r) (by simpa using h)
  refine G.seqC tfine rfl trivial ?_
  refine GO.callRow rfl rfl rfl rfl rfl rfl rfl (fun args w => Try.call93 args w) (fun ρ w _ _ => words_any w) fun A c => ?_
  rcases (show r = 1 ∨ r = 2 ∨ r = 3 ∨ r = 4 by omega) with rfl | rfl | rfl | rfl
  all_goals
    refine GO.fin tfine rfl ⟨by decide, by decide, by decide, trivial⟩ ?_
    exact G.ret (endK.ret rfl rfl)
def eqS (s : ByteArray) (l : List ByteArray) (k : Nat) : Bool := s.toList == (l.getD k w0).toList
def ruleS (s : ByteArray) : Int := if firstI (eqS s WS) 0 5 > 0 then firstI (eqS s WS) 0 5 else 0
end Go.Proofs.Ytiicemgngccicaa
