/- Chapter 02: the reference's checked product, and that it answers as the program's. -/
import Derived.Test.YtiicemgngccicaaW
set_option linter.unusedVariables false
set_option linter.unusedSimpArgs false
set_option maxRecDepth 8000
namespace Go.Proofs.Ytiicemgngccicaa
open Go.Sx Go.RowKit
theorem ref1Is_any (n : Int) (w : World) : Calls Try.prog 71 #[I n] w fun e w' => e = .returned (.bool (amtB n)) ∧ Below w.heap.size w w' := by
  refine enterPlain tfine Try.func71 rfl 9 Try.ntmps71 [.c (.k (I n))] [] rfl rfl trivial ⟨trivial, trivial⟩ ?_
  refine G.seqR tfine rfl trivial ?_
  refine G.seqR tfine rfl ?_ ?_
  · simp [AllP, condB]
  exact G.ret (endK.ret rfl (vb rfl))
def three1 (a b c : Int) : Int := if (((!amtB a) || (!amtB b)) || (!amtB c)) = true then 2 else if (c == 0) = true then 16 else 0
theorem three_any (a b c : Int) (w : World) : Calls Try.prog 88 #[I a, I b, I c] w fun e w' => e = .returned (I (three1 a b c)) ∧ Below w.heap.size w w' := by
  refine enterPlain tfine Try.func88 rfl 22 Try.ntmps88 [.c (.k (I a)), .c (.k (I b)), .c (.k (I c))] [] rfl rfl trivial ⟨trivial, trivial, trivial, trivial⟩ ?_
  refine G.seqR tfine rfl trivial ?_
  refine G.seq (G.seqC tfine rfl trivial ?_)
  refine GO.callPlain rfl rfl rfl rfl (fun args w => Try.call71 args w) (fun ρ w hm _ => ref1Is_any a w) ?_
  refine GO.more tfine rfl ?_ ?_
  · simp [AllP, condB]
  refine GO.callGuard (.bool (amtB b)) rfl rfl rfl (by first | exact trivial | exact ⟨id, trivial⟩) rfl rfl (fun args w => Try.call71 args w) rfl (fun _ m' hle ρ w hs hok => ref1Is_any b w) ?_
  refine GO.more tfine rfl ?_ ?_
  · simp [AllP, condB]
  refine GO.callGuard (.bool (amtB c)) rfl rfl rfl (by first | exact trivial | exact ⟨id, trivial⟩) rfl rfl (fun args w => Try.call71 args w) rfl (fun _ m' hle ρ w hs hok => ref1Is_any c w) ?_
  refine GO.fin tfine rfl ?_ ?_
  · simp [AllP, condB]
  refine G.cond rfl (fun h => ?_) (fun h => ?_)
  · refine G.seqR tfine rfl trivial ?_
    refine G.ret (endK.ret rfl ?_)
    rw [three1, h]; rfl
  refine G.skip ?_
  refine G.seq (G.seqR tfine rfl trivial ?_)
  refine G.cond rfl (fun h2 => ?_) (fun h2 => ?_)
  · refine G.seqR tfine rfl trivial ?_
    refine G.ret (endK.ret rfl ?_)
    rw [three1, h, h2]; rfl
  refine G.skip ?_
  refine G.seqR tfine rfl trivial ?_
  refine G.ret (endK.ret rfl ?_)
  rw [three1, h, h2]; rfl
theorem of3_ref {a b c : Int} (h : three1 a b c = 0) : (0 ≤ a ∧ a ≤ M) ∧ (0 ≤ b ∧ b ≤ M) ∧ (1 ≤ c ∧ c ≤ M) ∧
    of3 a b c = if (refOf a.toNat b.toNat c.toNat 128849018880000).2.2 = true then ((refOf a.toNat b.toNat c.toNat 128849018880000).1, (refOf a.toNat b.toNat c.toNat 128849018880000).2.1, 0) else (0, 0, 15) := by
  unfold three1 at h
  split at h
  · cases h
  rename_i h1
  split at h
  · cases h
  rename_i h2
  simp only [Bool.or_eq_true, Bool.not_eq_true', not_or, Bool.not_eq_false] at h1
  have ha := amtB_true h1.1.1
  have hb := amtB_true h1.1.2
  have hc := amtB_true h1.2
  have hc0 : c ≠ 0 := by simpa using h2
  refine ⟨ha, hb, ⟨by omega, hc.2⟩, ?_⟩
  unfold of3
  rw [if_neg (by simp [h1.1.1, h1.1.2, h1.2]), if_neg h2]
  unfold dvd3 refOf
  by_cases h3 : a.toNat * b.toNat / c.toNat ≤ 128849018880000
  · simp only [if_pos h3, decide_eq_true_eq, if_neg (show ¬ a.toNat * b.toNat / c.toNat > 128849018880000 by omega)]
    rfl
  · simp only [if_neg h3, decide_eq_true_eq, if_pos (show a.toNat * b.toNat / c.toNat > 128849018880000 by omega)]
    rfl
theorem of3_bad {a b c : Int} (h : three1 a b c ≠ 0) : of3 a b c = (0, 0, three1 a b c) := by
  unfold three1 at h ⊢
  unfold of3
  have e : (!(!([a, b, c].any fun n => !amtB n))) = (((!amtB a) || (!amtB b)) || (!amtB c)) := by simp [Bool.or_assoc]
  rw [e]
  split
  · rfl
  · rename_i h1
    rw [if_neg h1] at h
    split
    · rfl
    · rename_i h2
      rw [if_neg h2] at h
      exact absurd rfl h
theorem refOfC_any (a b c : Int) (w : World) :
    Calls Try.prog 78 #[I a, I b, I c] w fun e w' => e = .returned (.tuple #[I (of3 a b c).1, I (of3 a b c).2.1, I (of3 a b c).2.2]) ∧ Below w.heap.size w w' := by
  refine enterPlain tfine Try.func78 rfl 32 Try.ntmps78 [.c (.k (I a)), .c (.k (I b)), .c (.k (I c))] [] rfl rfl trivial ⟨trivial, trivial, trivial, trivial⟩ ?_
  refine G.seqR tfine rfl trivial ?_
  refine G.seq (G.seqC tfine rfl trivial ?_)
  refine GO.callPlain rfl rfl rfl rfl (fun args w => Try.call88 args w) (fun ρ w hm _ => three_any a b c w) ?_
  refine GO.fin tfine rfl trivial ?_
  refine G.seqR tfine rfl trivial ?_
  refine G.cond rfl (fun h => ?_) (fun h => ?_)
  · refine G.seqR tfine rfl trivial ?_
    refine G.ret (endK.ret rfl ?_)
    rw [of3_bad (by simpa using h)]
  refine G.skip ?_
  obtain ⟨ha, hb, hc, he⟩ := of3_ref (a := a) (b := b) (c := c) (by simpa using h)
  rw [he]
  unfold M at ha hb hc
  obtain ⟨x, rfl⟩ : ∃ x : Nat, a = x := ⟨a.toNat, by omega⟩
  obtain ⟨y, rfl⟩ : ∃ y : Nat, b = y := ⟨b.toNat, by omega⟩
  obtain ⟨z, rfl⟩ : ∃ z : Nat, c = z := ⟨c.toNat, by omega⟩
  simp only [Int.toNat_natCast]
  refine G.seqC tfine rfl trivial ?_
  refine GO.callPlain rfl rfl rfl rfl (fun args w => Try.call89 args w) (fun ρ w hm _ => refOf_any x y z 128849018880000 (by omega) (by omega) (by omega) (by omega) w) ?_
  refine GO.fin tfine rfl trivial ?_
  refine G.seq (G.seqR tfine rfl trivial ?_)
  refine G.cond rfl (fun h2 => ?_) (fun h2 => ?_)
  · refine G.seqR tfine rfl trivial ?_
    refine G.ret (endK.ret rfl ?_)
    rw [if_neg (by intro h3; rw [h3] at h2; cases h2)]
  refine G.skip ?_
  refine G.seqR tfine rfl trivial ?_
  refine G.ret (endK.ret rfl ?_)
  rw [if_pos (by simpa using h2)]
theorem refProduct_any (a b c rule : Int) (w : World) :
    Calls Try.prog 72 #[I a, I b, I c, I rule] w fun e w' => e = .returned (.tuple #[I (prod2 a b c rule).1, I (prod2 a b c rule).2]) ∧ Below w.heap.size w w' := by
  refine enterPlain tfine Try.func72 rfl 35 Try.ntmps72 [.c (.k (I a)), .c (.k (I b)), .c (.k (I c)), .c (.k (I rule))] [] rfl rfl trivial ⟨trivial, trivial, trivial, trivial, trivial⟩ ?_
  refine G.seqR tfine rfl trivial ?_
  refine G.seq (G.seqC tfine rfl trivial ?_)
  refine GO.callPlain rfl rfl rfl rfl (fun args w => Try.call70 args w) (fun ρ w hm _ => refIs_any _ w) ?_
  refine GO.fin tfine rfl trivial ?_
  refine G.cond rfl (fun h => ?_) (fun h => ?_)
  · refine G.seqR tfine rfl trivial ?_
    refine G.ret (endK.ret rfl ?_)
    rw [prod2, h]; rfl
  refine G.skip ?_
  have hk := isB_true (r := rule) (by simpa using h)
  refine G.seqC tfine rfl trivial ?_
  refine GO.callPlain rfl rfl rfl rfl (fun args w => Try.call78 args w) (fun ρ w hm _ => refOfC_any a b c w) ?_
  refine GO.fin tfine rfl trivial ?_
  refine G.seq (G.seqR tfine rfl trivial ?_)
  refine G.cond rfl (fun h2 => ?_) (fun h2 => ?_)
  · refine G.seqR tfine rfl trivial ?_
    refine G.ret (endK.ret rfl ?_)
    rw [prod2, h, h2]; rfl
  refine G.skip ?_
  have h0 : (of3 a b c).2.2 = 0 := by simpa using h2
  obtain ⟨hq, hr, hc⟩ := of3_ok h0
  refine G.seqC tfine rfl trivial ?_
  refine GO.callPlain rfl rfl rfl rfl (fun args w => Try.call79 args w) (fun ρ w hm _ => round_any _ _ c rule w ⟨by unfold M at *; omega, by unfold M at *; omega⟩ hc hr) ?_
  rw [refUp_eq hc.1 hr hk]
  refine GO.fin tfine rfl trivial ?_
  refine G.seq (G.seqR tfine rfl trivial ?_)
  refine G.cond rfl (fun h3 => ?_) (fun h3 => ?_)
  · refine G.seqR tfine rfl trivial ?_
    refine G.ret (endK.ret rfl ?_)
    rw [prod2, h, h2, h3]; rfl
  refine G.skip ?_
  refine G.seqR tfine rfl trivial ?_
  refine G.ret (endK.ret rfl ?_)
  rw [prod2, h, h2, h3]; rfl
end Go.Proofs.Ytiicemgngccicaa
