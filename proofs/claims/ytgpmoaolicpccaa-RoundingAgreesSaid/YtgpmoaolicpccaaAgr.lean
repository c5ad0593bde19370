/- RoundingAgrees returns true for all arguments. -/
import Derived.Test.YtgpmoaolicpccaaNear
set_option linter.unusedVariables false
set_option linter.unusedSimpArgs false
set_option maxRecDepth 8000
namespace Go.Proofs.Ytgpmoaolicpccaa
open Go.Sx Go.RowKit
theorem of3_err {a b c : Int} (h : (of3 a b c).2.2 ≠ 0) : (of3 a b c).1 = 0 := by
  unfold of3 at h ⊢
  split
  · rfl
  · rename_i h1
    rw [if_neg h1] at h
    split
    · rfl
    · rename_i h2
      rw [if_neg h2] at h
      split
      · rfl
      · rename_i h3
        rw [if_neg h3] at h
        exact absurd rfl h
theorem prod_down (a b c : Int) : prod2 a b c 1 = ((of3 a b c).1, (of3 a b c).2.2) := by
  unfold prod2
  rw [if_neg (by simp [isB])]
  by_cases h : (of3 a b c).2.2 = 0
  · rw [if_neg (by simp [h]), h]
    have h2 := (of3_ok h).1
    rw [if_neg (by simp [upB]; unfold M at h2; omega)]
    simp [upB]
  · rw [if_pos (by simp [h]), of3_err h]
theorem of3_one {a c : Int} (h : (of3 a 1 c).2.2 = 0) : (0 ≤ a ∧ a ≤ M) ∧ (1 ≤ c ∧ c ≤ M) ∧ (of3 a 1 c).1 = a / c ∧ (of3 a 1 c).2.1 = a % c := by
  have hok := of3_ok h
  unfold of3 at h ⊢
  split at h
  · cases h
  rename_i h1
  split at h
  · cases h
  rename_i h2
  split at h
  · cases h
  rename_i h3
  rw [if_neg h1, if_neg h2, if_neg h3]
  have hall : amtB a = true ∧ amtB 1 = true ∧ amtB c = true := by simpa using h1
  have ha := amtB_true hall.1
  refine ⟨ha, hok.2.2, ?_⟩
  unfold dvd3 at h3 ⊢
  split at h3
  · exact absurd rfl h3
  rename_i h4
  rw [if_neg h4]
  obtain ⟨na, rfl⟩ := Int.eq_ofNat_of_zero_le ha.1
  obtain ⟨nc, rfl⟩ := Int.eq_ofNat_of_zero_le (show 0 ≤ c by omega)
  simp
theorem prod_one {a c rule : Int} (h : (prod2 a 1 c rule).2 = 0) : (quo3 a c rule).2.2 = 0 ∧ (prod2 a 1 c rule).1 = (quo3 a c rule).1 := by
  unfold prod2 at h ⊢
  split at h
  · cases h
  rename_i h1
  split at h
  · rename_i h2
    simp at h2
    exact absurd h h2
  rename_i h2
  have h0 : (of3 a 1 c).2.2 = 0 := by simpa using h2
  obtain ⟨ha, hc, e1, e2⟩ := of3_one h0
  rw [if_neg h1, if_neg h2]
  rw [e1, e2, show (if upB rule (a / c) (a % c) c = true then a / c + 1 else a / c) = rndQ a c rule from rfl] at h ⊢
  split at h
  · cases h
  rename_i h3
  rw [if_neg h3]
  have hk := isB_true (r := rule) (by simpa using h1)
  have hq : quo3 a c rule = (rndQ a c rule, rndR a c rule, 0) := by
    unfold quo3
    rw [if_neg (by simp [isB, hk]), if_neg (by simp [divB]; unfold M at *; omega)]
  rw [hq]
  exact ⟨rfl, rfl⟩
theorem roundingAgrees_walk (x0 x1 x2 rule : Int) (w : World) : Calls Try.prog 8 #[.agg #[I x0, I x1, I x2], I rule] w fun e w' => e = .returned (.bool true) ∧ Below w.heap.size w w' := by
  refine enterPlain tfine Try.func8 rfl 76 Try.ntmps8 [.agg [.k (I x0), .k (I x1), .k (I x2)], .c (.k (I rule))] [] rfl rfl trivial ⟨⟨trivial, trivial, trivial, trivial⟩, trivial, trivial⟩ ?_
  refine G.seqR tfine rfl trivial ?_
  refine G.seq (G.seqC tfine rfl trivial ?_)
  refine GO.callPlain rfl rfl rfl rfl (fun args w => Try.call11 args w) (fun ρ w hm _ => awake_any w) ?_
  refine GO.fin tfine rfl trivial ?_
  refine G.cond_false rfl (G.skip ?_)
  refine G.seqC tfine rfl ⟨by decide, by decide, by decide, by decide, by decide, by decide, trivial⟩ ?_
  refine GO.callPlain rfl rfl rfl rfl (fun args w => Try.call16 args w) (fun ρ w hm _ => rprod_any x0 1 x2 rule w) ?_
  refine GO.fin tfine rfl trivial ?_
  refine G.seqC tfine rfl ⟨by decide, by decide, by decide, by decide, by decide, by decide, trivial⟩ ?_
  refine GO.callPlain rfl rfl rfl rfl (fun args w => Try.call12 args w) (fun ρ w hm _ => quotient_any x0 x2 rule w) ?_
  refine GO.fin tfine rfl trivial ?_
  refine G.seq (G.seqR tfine rfl ?_ ?_)
  · simp [AllP, condB]
    intros
    and_intros <;> assumption
  have hf : (((prod2 x0 1 x2 rule).2 == 0) && (((quo3 x0 x2 rule).2.2 != 0) || ((prod2 x0 1 x2 rule).1 != (quo3 x0 x2 rule).1))) = false := by
    by_cases h : (prod2 x0 1 x2 rule).2 = 0
    · have := prod_one h
      simp [this.1, this.2]
    · simp [h]
  rw [hf]
  refine G.cond_false rfl (G.skip ?_)
  refine G.seqC tfine rfl ⟨by decide, by decide, by decide, by decide, by decide, by decide, by decide, by decide, by decide, trivial⟩ ?_
  refine GO.callPlain rfl rfl rfl rfl (fun args w => Try.call16 args w) (fun ρ w hm _ => rprod_any x0 x1 x2 1 w) ?_
  refine GO.fin tfine rfl trivial ?_
  refine G.seqC tfine rfl ⟨by decide, by decide, by decide, by decide, by decide, by decide, by decide, by decide, by decide, trivial⟩ ?_
  refine GO.callPlain rfl rfl rfl rfl (fun args w => Try.call18 args w) (fun ρ w hm _ => of_any x0 x1 x2 w) ?_
  refine GO.fin tfine rfl trivial ?_
  refine G.seqR tfine rfl ?_ ?_
  · simp [AllP, condB]
  refine G.ret (endK.ret rfl (vb ?_))
  rw [prod_down]
  simp
end Go.Proofs.Ytgpmoaolicpccaa
