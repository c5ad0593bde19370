/- Chapter 02: the words of the rules, in the program and in the reference. -/
import Derived.Test.YtgpmoaolicpccaaE
set_option linter.unusedVariables false
set_option linter.unusedSimpArgs false
namespace Go.Proofs.Ytgpmoaolicpccaa
open Go.Sx Go.RowKit
abbrev wD : ByteArray := ⟨#[100, 111, 119, 110]⟩
abbrev wU : ByteArray := ⟨#[117, 112]⟩
abbrev wH : ByteArray := ⟨#[104, 97, 108, 102, 45, 117, 112]⟩
abbrev wE : ByteArray := ⟨#[104, 97, 108, 102, 45, 101, 118, 101, 110]⟩
abbrev w0 : ByteArray := ⟨#[]⟩
def WS : List ByteArray := [w0, wD, wU, wH, wE]
def elS (l : List ByteArray) (i : Nat) : List Value := [.string (l.getD i w0)]
theorem words_any (w : World) : Calls Try.prog 38 #[] w fun e w' => ∃ A c, e = .returned (.slice A 5 c) ∧ RdNew w w' A 5 1 (elS WS) ∧ Below w.heap.size w w' := by
  refine enterRow tfine 5 1 (elS WS) Try.func38 rfl 2 Try.ntmps38 [] [] rfl rfl trivial trivial ?_
  refine G.seqR tfine rfl trivial ?_
  refine G.seqR tfine rfl trivial ?_
  refine G.ret (endRow.ret rfl ⟨rfl, rfl, WS.map .string, rfl, by decide, fun i hi => ?_⟩)
  rcases (show i = 0 ∨ i = 1 ∨ i = 2 ∨ i = 3 ∨ i = 4 by omega) with rfl | rfl | rfl | rfl | rfl <;> rfl
def wordS (r : Int) : ByteArray := if (!isB r) = true then w0 else WS.getD r.toNat w0
theorem word_any (r : Int) (w : World) : Calls Try.prog 22 #[I r] w fun e w' => e = .returned (.string (wordS r)) ∧ Below w.heap.size w w' := by
  refine enterPlain tfine Try.func22 rfl 10 Try.ntmps22 [.c (.k (I r))] [] rfl rfl trivial ⟨trivial, trivial⟩ ?_
  refine G.seqR tfine rfl trivial ?_
  refine G.seq (G.seqC tfine rfl trivial ?_)
  refine GO.callPlain rfl rfl rfl rfl (fun args w => Try.call26 args w) (fun ρ w hm _ => is_any _ w) ?_
  refine GO.fin tfine rfl trivial ?_
  refine G.cond rfl (fun h => ?_) (fun h => ?_)
  · refine G.seqR tfine rfl trivial ?_
    refine G.ret (endK.ret rfl ?_)
    rw [wordS, h]; rfl
  refine G.skip ?_
  have hk := isB_true (r := r) (by simpa using h)
  refine G.seqC tfine rfl trivial ?_
  refine GO.callRow rfl rfl rfl rfl rfl rfl rfl (fun args w => Try.call38 args w) (fun ρ w _ _ => words_any w) fun A c => ?_
  rcases (show r = 1 ∨ r = 2 ∨ r = 3 ∨ r = 4 by omega) with rfl | rfl | rfl | rfl
  all_goals
    refine GO.fin tfine rfl ⟨by decide, by decide, by decide, trivial⟩ ?_
    exact G.ret (endK.ret rfl rfl)
theorem refWord_any (r : Int) (w : World) : Calls Try.prog 23 #[I r] w fun e w' => e = .returned (.string (wordS r)) ∧ Below w.heap.size w w' := by
  refine enterPlain tfine Try.func23 rfl 11 Try.ntmps23 [.c (.k (I r))] [] rfl rfl trivial ⟨trivial, trivial⟩ ?_
  refine G.seqR tfine rfl trivial ?_
  refine G.seq (G.seqC tfine rfl trivial ?_)
  refine GO.callPlain rfl rfl rfl rfl (fun args w => Try.call29 args w) (fun ρ w hm _ => refIs_any _ w) ?_
  refine GO.fin tfine rfl trivial ?_
  refine G.cond rfl (fun h => ?_) (fun h => ?_)
  · refine G.seqR tfine rfl trivial ?_
    refine G.ret (endK.ret rfl ?_)
    rw [wordS, h]; rfl
  refine G.skip ?_
  have hk := isB_true (r := r) (by simpa using h)
  rcases (show r = 1 ∨ r = 2 ∨ r = 3 ∨ r = 4 by omega) with rfl | rfl | rfl | rfl
  all_goals
    refine G.seqR tfine rfl ⟨by decide, by decide, trivial⟩ ?_
    exact G.ret (endK.ret rfl rfl)
def eqS (s : ByteArray) (l : List ByteArray) (k : Nat) : Bool := s.toList == (l.getD k w0).toList
theorem indexS_any (A : Option Addr) (c : Nat) (l : List ByteArray) (s : ByteArray) (w : World) (hl : RdRow w A l.length 1 (elS l)) (hm : l.length ≤ 4611686018427387904) :
    Calls Try.prog 39 #[.slice A l.length c, .string s] w fun e w' => e = .returned (I (firstI (eqS s l) 0 l.length)) ∧ Below w.heap.size w w' := by
  refine enterPlain tfine Try.func39 rfl 19 Try.ntmps39 [.c (.inp 1000 A l.length c), .c (.k (.string s))] [⟨1000, A, 1, l.length, elS l⟩] rfl rfl ⟨hl, trivial⟩ ⟨.inl ⟨rfl, rfl, rfl⟩, trivial, trivial⟩ ?_
  refine G.seqR tfine rfl trivial ?_
  refine G.seq (G.seqR tfine rfl trivial ?_)
  refine G.block (G.loop (fun k : Nat => St.of [(0, .v (.c (.inp 1000 A l.length c))), (1, .v (.c (.k (.string s)))), (7, .v (.c (.k (I l.length)))), (8, .v (.c (.k (I k))))] [(1000, .ro 1 l.length (elS l))])
    (fun k => k ≤ l.length ∧ firstI (eqS s l) 0 l.length = firstI (eqS s l) k (l.length - k)) (fun k => l.length - k) 0 ⟨by omega, by simp⟩ (St.le_of rfl ⟨⟨_, rfl, Blk.le_refl _⟩, trivial⟩ ⟨rfl, rfl, rfl, rfl, trivial⟩) ?_)
  rintro k ⟨hk, hfi⟩
  refine G.seqR tfine rfl trivial ?_
  refine G.seq (G.cond rfl (fun h => ?_) (fun h => ?_))
  rotate_left
  · have h := of_decide_eq_false h
    have : k = l.length := by omega
    subst this
    refine G.exit ?_
    refine G.seqR tfine rfl trivial ?_
    refine G.ret (endK.ret rfl ?_)
    rw [hfi]
    simp [firstI]
  have h := of_decide_eq_true h
  have hlt : k < l.length := by omega
  refine G.skip ?_
  refine G.seq (G.block ?_)
  refine G.seqR tfine rfl trivial ?_
  refine G.seqR tfine rfl ⟨by simpa using hlt, by omega, by omega, trivial⟩ ?_
  rw [Int.toNat_natCast]
  have hs : l.length - k = (l.length - (k + 1)) + 1 := by omega
  rw [hs, firstI] at hfi
  refine G.cond rfl (fun h2 => ?_) (fun h2 => ?_)
  · refine G.seqR tfine rfl trivial ?_
    refine G.ret (endK.ret rfl ?_)
    rw [hfi, if_pos (show eqS s l k = true from h2)]
  · refine G.skip ?_
    refine G.reg tfine rfl trivial ?_
    rw [IntWalk.i64_in _ (by omega)]
    rw [if_neg (show ¬ eqS s l k = true from fun h3 => by rw [show eqS s l k = _ from h2] at h3; cases h3)] at hfi
    exact ⟨k + 1, ⟨by omega, hfi⟩, (by show l.length - (k + 1) < l.length - k; omega), St.le_of rfl ⟨⟨_, rfl, Blk.le_refl _⟩, trivial⟩ ⟨rfl, rfl, rfl, by simp [up, I], trivial⟩⟩
def ruleS (s : ByteArray) : Int := if firstI (eqS s WS) 0 5 > 0 then firstI (eqS s WS) 0 5 else 0
theorem rule_any (s : ByteArray) (w : World) : Calls Try.prog 24 #[.string s] w fun e w' => e = .returned (I (ruleS s)) ∧ Below w.heap.size w w' := by
  refine enterPlain tfine Try.func24 rfl 7 Try.ntmps24 [.c (.k (.string s))] [] rfl rfl trivial ⟨trivial, trivial⟩ ?_
  refine G.seqR tfine rfl trivial ?_
  refine G.seqC tfine rfl trivial ?_
  refine GO.callRow rfl rfl rfl rfl rfl rfl rfl (fun args w => Try.call38 args w) (fun ρ w _ _ => words_any w) fun A c => ?_
  refine GO.more tfine rfl trivial ?_
  refine GO.callPlain rfl rfl rfl rfl (fun args w => Try.call39 args w) (fun ρ w hs hok => indexS_any A c WS s w (hs.row rfl (hok _ List.mem_cons_self)) (by decide)) ?_
  refine GO.fin tfine rfl trivial ?_
  exact G.ret (endK.ret rfl rfl)
end Go.Proofs.Ytgpmoaolicpccaa
