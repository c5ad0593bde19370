/- Chapter 02: the library's searches, the words of the rules. -/
import Derived.Test.YtiicemgngccicaaC
import Derived.Test.YtiicemgngccicaaSxN
set_option linter.unusedVariables false
set_option linter.unusedSimpArgs false
namespace Go.Proofs.Ytiicemgngccicaa
open Go.Sx Go.RowKit
/-- the first number from k on, of m, that p accepts; -1 if there is none -/
def firstI (p : Nat → Bool) : Nat → Nat → Int
  | _, 0 => -1
  | k, m + 1 => if p k = true then (k : Int) else firstI p (k + 1) m
theorem firstI_lt (p : Nat → Bool) (k m : Nat) : -1 ≤ firstI p k m ∧ firstI p k m < (k : Int) + m + 1 := by
  induction m generalizing k with
  | zero => simp [firstI]; omega
  | succ m ih =>
    unfold firstI
    split
    · omega
    · have := ih (k + 1); omega
def elI (l : List Int) (i : Nat) : List Value := [I (l.getD i 0)]
theorem indexFunc_any (f : FuncId) (q : Int → Bool) (hcf : ∀ args w, (callFunc f args).run Try.prog w = .ok (.enter f args) w)
    (hf : ∀ v w, Calls Try.prog f #[I v] w fun e w' => e = .returned (.bool (q v)) ∧ Below w.heap.size w w') (A : Option Addr) (c : Nat) (l : List Int) (w : World) (hl : RdRow w A l.length 1 (elI l)) (hm : l.length ≤ 4611686018427387904) :
    Calls Try.prog 90 #[.slice A l.length c, .func (.func f) #[] #[]] w fun e w' => e = .returned (I (firstI (fun k => q (l.getD k 0)) 0 l.length)) ∧ Below w.heap.size w w' := by
  refine enterPlain tfine Try.func90 rfl 19 Try.ntmps90 [.c (.inp 1000 A l.length c), .c (.k (.func (.func f) #[] #[]))] [⟨1000, A, 1, l.length, elI l⟩] rfl rfl ⟨hl, trivial⟩ ⟨.inl ⟨rfl, rfl, rfl⟩, trivial, trivial⟩ ?_
  refine G.seqR tfine rfl trivial ?_
  refine G.seq (G.seqR tfine rfl trivial ?_)
  refine G.block (G.loop (fun k : Nat => St.of [(0, .v (.c (.inp 1000 A l.length c))), (1, .v (.c (.k (.func (.func f) #[] #[])))), (7, .v (.c (.k (I l.length)))), (8, .v (.c (.k (I k))))] [(1000, .ro 1 l.length (elI l))])
    (fun k => k ≤ l.length ∧ firstI (fun k => q (l.getD k 0)) 0 l.length = firstI (fun k => q (l.getD k 0)) k (l.length - k)) (fun k => l.length - k) 0 ⟨by omega, by simp⟩ (St.le_of rfl ⟨⟨_, rfl, Blk.le_refl _⟩, trivial⟩ ⟨rfl, rfl, rfl, rfl, trivial⟩) ?_)
  rintro k ⟨hk, hfi⟩
  refine G.seqR tfine rfl trivial ?_
  refine G.seq (G.cond rfl (fun h => ?_) (fun h => ?_))
  rotate_left
  · have h := of_decide_eq_false h
    have : k = l.length := by omega
    subst this
    refine G.exit ?_
    refine G.seqR tfine rfl trivial ?_
    refine G.ret (endK.ret rfl ?_)
    rw [hfi]
    simp [firstI]
  have h := of_decide_eq_true h
  have hlt : k < l.length := by omega
  refine G.skip ?_
  refine G.seq (G.block ?_)
  refine G.seqR tfine rfl trivial ?_
  refine G.seqC tfine rfl ⟨by simpa using hlt, by omega, by omega, trivial⟩ ?_
  rw [Int.toNat_natCast]
  refine GO.callPlain rfl rfl rfl rfl hcf (fun ρ w hm _ => hf _ w) (GO.nil ?_)
  have hs : l.length - k = (l.length - (k + 1)) + 1 := by omega
  rw [hs, firstI] at hfi
  refine G.cond rfl (fun h2 => ?_) (fun h2 => ?_)
  · refine G.seqR tfine rfl trivial ?_
    refine G.ret (endK.ret rfl ?_)
    rw [hfi, if_pos h2]
  · refine G.skip ?_
    refine G.reg tfine rfl trivial ?_
    rw [IntWalk.i64_in _ (by omega)]
    rw [if_neg (by simpa using h2)] at hfi
    exact ⟨k + 1, ⟨by omega, hfi⟩, (by show l.length - (k + 1) < l.length - k; omega), St.le_of rfl ⟨⟨_, rfl, Blk.le_refl _⟩, trivial⟩ ⟨rfl, rfl, rfl, by simp [up, I], trivial⟩⟩
theorem containsFunc_any (f : FuncId) (q : Int → Bool) (hcf : ∀ args w, (callFunc f args).run Try.prog w = .ok (.enter f args) w)
    (hf : ∀ v w, Calls Try.prog f #[I v] w fun e w' => e = .returned (.bool (q v)) ∧ Below w.heap.size w w') (A : Option Addr) (c : Nat) (l : List Int) (w : World) (hl : RdRow w A l.length 1 (elI l)) (hm : l.length ≤ 4611686018427387904) :
    Calls Try.prog 80 #[.slice A l.length c, .func (.func f) #[] #[]] w fun e w' => e = .returned (.bool (decide (firstI (fun k => q (l.getD k 0)) 0 l.length ≥ 0))) ∧ Below w.heap.size w w' := by
  refine enterPlain tfine Try.func80 rfl 9 Try.ntmps80 [.c (.inp 1000 A l.length c), .c (.k (.func (.func f) #[] #[]))] [⟨1000, A, 1, l.length, elI l⟩] rfl rfl ⟨hl, trivial⟩ ⟨.inl ⟨rfl, rfl, rfl⟩, trivial, trivial⟩ ?_
  refine G.seqR tfine rfl trivial ?_
  refine G.seqC tfine rfl trivial ?_
  refine GO.callPlain rfl rfl rfl rfl (fun args w => Try.call90 args w) (fun ρ w hs hok => indexFunc_any f q hcf hf A c l w (hs.row rfl (hok _ List.mem_cons_self)) hm) ?_
  refine GO.fin tfine rfl trivial ?_
  exact G.ret (endK.ret rfl rfl)
def badB (n : Int) : Bool := decide (n < 0) || decide (n > 128849018880000)
theorem firstI_any (p : Nat → Bool) (k m : Nat) : decide (firstI p k m ≥ 0) = (List.range' k m).any p := by
  induction m generalizing k with
  | zero => rfl
  | succ m ih =>
    rw [firstI, List.range'_succ, List.any_cons, ← ih]
    cases p k with
    | true => simp
    | false => simp
theorem any_getD (q : Int → Bool) (l : List Int) : (List.range' 0 l.length).any (fun k => q (l.getD k 0)) = l.any q := by
  have : l.map q = (List.range' 0 l.length).map (fun k => q (l.getD k 0)) := by
    apply List.ext_getElem?
    intro i
    rw [List.getElem?_map, List.getElem?_map]
    by_cases h : i < l.length
    · rw [List.getElem?_range' h, List.getElem?_eq_getElem h]
      simp [List.getD_eq_getElem?_getD, h]
    · rw [List.getElem?_eq_none (by omega), List.getElem?_eq_none (by simp; omega)]
      rfl
  have h2 : ∀ (l : List Int), l.any q = (l.map q).any id := by intro l; simp [List.any_map]
  rw [h2, this]
  simp [List.any_map]
end Go.Proofs.Ytiicemgngccicaa
