/- RoundingSteps returns true for all arguments. -/
import Derived.Test.YtgpmoaolicpccaaOrder
set_option linter.unusedVariables false
set_option linter.unusedSimpArgs false
set_option maxRecDepth 8000
namespace Go.Proofs.Ytgpmoaolicpccaa
open Go.Sx Go.RowKit
theorem rndQ_exact {q b rule : Int} (hb : 1 ≤ b) : rndQ (q * b) b rule = q ∧ rndR (q * b) b rule = 0 := by
  have h1 : (q * b) / b = q := Int.mul_ediv_cancel _ (by omega)
  have h2 : (q * b) % b = 0 := Int.mul_emod_left _ _
  unfold rndQ rndR
  rw [h1, h2]
  have : upB rule q 0 b = false := by
    cases hu : upB rule q 0 b with
    | false => rfl
    | true => have := up_pos hb (Int.le_refl 0) hu; omega
  rw [this]
  exact ⟨rfl, rfl⟩
theorem roundingSteps_walk (a step r0 r1 : Int) (w : World) : Calls Try.prog 7 #[I a, I step, .agg #[I r0, I r1]] w fun e w' => e = .returned (.bool true) ∧ Below w.heap.size w w' := by
  refine enterPlain tfine Try.func7 rfl 76 Try.ntmps7 [.c (.k (I a)), .c (.k (I step)), .agg [.k (I r0), .k (I r1)]] [] rfl rfl trivial ⟨trivial, trivial, ⟨trivial, trivial, trivial⟩, trivial⟩ ?_
  refine G.seqR tfine rfl trivial ?_
  refine G.seq (G.seqC tfine rfl trivial ?_)
  refine GO.callPlain rfl rfl rfl rfl (fun args w => Try.call11 args w) (fun ρ w hm _ => awake_any w) ?_
  refine GO.fin tfine rfl trivial ?_
  refine G.cond_false rfl (G.skip ?_)
  refine G.seqC tfine rfl ⟨by decide, by decide, by decide, trivial⟩ ?_
  refine GO.callPlain rfl rfl rfl rfl (fun args w => Try.call14 args w) (fun ρ w hm _ => step_any a step r0 w) ?_
  refine GO.fin tfine rfl trivial ?_
  refine G.seq (G.seqR tfine rfl trivial ?_)
  refine G.cond rfl (fun h => ?_) (fun h => ?_)
  · refine G.seqR tfine rfl trivial ?_
    refine G.ret (endK.ret rfl (vb ?_))
    have := quo_err (a := a) (b := step) (rule := r0) (by simpa [step2] using h)
    simp only [step2, this.1, Int.zero_mul]
    rfl
  refine G.skip ?_
  obtain ⟨⟨ha, hb, hk⟩, e1, e2⟩ := quo_ok (a := a) (b := step) (rule := r0) (by simpa [step2] using h)
  have hz := rnd_sum (a := a) (rule := r0) hb.1
  have hlt := rndR_lt (a := a) (rule := r0) hb.1
  have hx : (step2 a step r0).1 = rndQ a step r0 * step := by
    simp only [step2, e1]
    rw [hz, IntWalk.i64_in _ (by unfold M at *; omega)]
  rw [hx]
  have hs1 : decide (step < 1) = false := by simp; omega
  refine G.seq (G.seqR tfine rfl trivial ?_)
  rw [hs1]
  refine G.cond_false rfl (G.skip ?_)
  refine G.seqC tfine rfl ⟨by decide, by decide, by decide, trivial⟩ ?_
  refine GO.callPlain rfl rfl rfl rfl (fun args w => Try.call14 args w) (fun ρ w hm _ => step_any (rndQ a step r0 * step) step r1 w) ?_
  refine GO.fin tfine rfl trivial ?_
  have ht : (rndQ a step r0 * step).tmod step = 0 := Int.mul_tmod_left _ _
  have hy : (step2 (rndQ a step r0 * step) step r1).2 = 0 → (step2 (rndQ a step r0 * step) step r1).1 = rndQ a step r0 * step := by
    intro h0
    have h1 : (quo3 (rndQ a step r0 * step) step r1).2.2 = 0 := h0
    simp only [step2]
    rw [(quo_ok h1).2.1, (rndQ_exact hb.1).1, hz, IntWalk.i64_in _ (by unfold M at *; omega)]
  refine G.seq (G.seqR tfine rfl ?_ ?_)
  · have : ¬ step = 0 := by omega
    simp [AllP, condB, this]
  rw [ht]
  have hc : ((0 : Int) != 0 || (((step2 (rndQ a step r0 * step) step r1).2 == 0) && ((step2 (rndQ a step r0 * step) step r1).1 != rndQ a step r0 * step))) = false := by
    by_cases h0 : (step2 (rndQ a step r0 * step) step r1).2 = 0
    · simp [h0, hy h0]
    · simp [h0]
  rw [hc]
  refine G.cond_false rfl (G.skip ?_)
  have hf : (step2 (rndQ a step r0 * step) step r1).2 = 0 ∨ ((step2 (rndQ a step r0 * step) step r1).2 = 1 ∧ (r1 < 1 ∨ 4 < r1)) ∨ ((step2 (rndQ a step r0 * step) step r1).2 = 2 ∧ (128849018880000 < rndQ a step r0 * step ∨ rndQ a step r0 * step < -128849018880000)) := by
    simp only [step2, quo3]
    have hdb : divB step = true := by simp [divB]; unfold M at *; omega
    split
    · rename_i h1
      right; left
      refine ⟨rfl, ?_⟩
      simp [isB] at h1
      omega
    · split
      · rename_i h1
        right; right
        refine ⟨rfl, ?_⟩
        simp [hdb] at h1
        omega
      · left; rfl
  generalize (step2 (rndQ a step r0 * step) step r1).2 = f at *
  generalize rndQ a step r0 * step = x at *
  refine G.seqR tfine rfl ?_ ?_
  · simp [AllP, condB]
    and_intros <;> intros <;> omega
  refine G.ret (endK.ret rfl (vb ?_))
  rcases hf with rfl | ⟨rfl, h1⟩ | ⟨rfl, h1⟩
  · simp
  · simp; omega
  · simp; omega
end Go.Proofs.Ytgpmoaolicpccaa
