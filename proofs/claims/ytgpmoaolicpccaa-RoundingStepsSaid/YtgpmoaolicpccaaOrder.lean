/- RoundingOrder returns true for all arguments. -/
import Derived.Test.YtgpmoaolicpccaaNear
set_option linter.unusedVariables false
set_option linter.unusedSimpArgs false
set_option maxRecDepth 8000
namespace Go.Proofs.Ytgpmoaolicpccaa
open Go.Sx Go.RowKit
theorem upB_mono {q r r' b rule : Int} (h : r ≤ r') (hu : upB rule q r b = true) : upB rule q r' b = true := by
  unfold upB at *
  split
  · rename_i h1; simp [h1] at hu
  · rename_i h1
    rw [if_neg h1] at hu
    split
    · rename_i h2
      rw [if_pos h2] at hu
      have := of_decide_eq_true hu
      exact decide_eq_true (by omega)
    · rename_i h2
      rw [if_neg h2] at hu
      split
      · rename_i h3
        rw [if_pos h3] at hu
        have := of_decide_eq_true hu
        exact decide_eq_true (by omega)
      · rename_i h3
        rw [if_neg h3] at hu
        have hu : b < 2 * r ∨ 2 * r = b ∧ ¬ q.tmod 2 = 0 := by simpa using hu
        have : b < 2 * r' ∨ 2 * r' = b ∧ ¬ q.tmod 2 = 0 := by
          rcases hu with hu | ⟨h4, h5⟩
          · left; omega
          · by_cases h6 : r = r'
            · subst h6; exact .inr ⟨h4, h5⟩
            · left; omega
        simpa using this
theorem rndQ_near {a b rule : Int} : a / b ≤ rndQ a b rule ∧ rndQ a b rule ≤ a / b + 1 := by
  unfold rndQ; split <;> omega
theorem rndQ_mono {a a' b rule : Int} (hb : 1 ≤ b) (h : a ≤ a') : rndQ a b rule ≤ rndQ a' b rule := by
  have hd := Int.ediv_le_ediv (show 0 < b by omega) h
  have h1 := rndQ_near (a := a) (b := b) (rule := rule)
  have h2 := rndQ_near (a := a') (b := b) (rule := rule)
  by_cases e : a / b = a' / b
  · have m1 := Int.mul_ediv_add_emod a b
    have m2 := Int.mul_ediv_add_emod a' b
    rw [e] at m1
    unfold rndQ
    rw [e]
    split
    · rename_i hu
      rw [if_pos (upB_mono (by omega) hu)]
      omega
    · split <;> omega
  · omega
theorem rndQ_down {a b : Int} : rndQ a b 1 = a / b := by simp [rndQ, upB]
theorem rndQ_up {a b : Int} : rndQ a b 2 = if a % b > 0 then a / b + 1 else a / b := by simp [rndQ, upB]
theorem rndQ_le_up {a b rule : Int} (hb : 1 ≤ b) : rndQ a b rule ≤ rndQ a b 2 := by
  have h0 := Int.emod_nonneg a (show b ≠ 0 by omega)
  rw [rndQ_up]
  unfold rndQ
  split
  · rename_i h
    rw [if_pos (up_pos hb h0 h)]
    omega
  · split <;> omega
theorem rndQ_neg {a b : Int} (hb : 1 ≤ b) : rndQ (-a) b 2 = -(a / b) := by
  have h0 := Int.emod_nonneg a (show b ≠ 0 by omega)
  have h1 := Int.emod_lt_of_pos a (show 0 < b by omega)
  have m1 := Int.mul_ediv_add_emod a b
  rw [rndQ_up]
  by_cases e : a % b = 0
  · have : (-a) / b = -(a / b) ∧ (-a) % b = 0 := by
      have := (Int.ediv_emod_unique (a := -a) (b := b) (r := 0) (q := -(a / b)) (by omega)).2 ⟨by rw [Int.mul_neg]; omega, by omega, by omega⟩
      exact this
    rw [this.1, this.2]
    simp
  · have : (-a) / b = -(a / b) - 1 ∧ (-a) % b = b - a % b := by
      have := (Int.ediv_emod_unique (a := -a) (b := b) (r := b - a % b) (q := -(a / b) - 1) (by omega)).2 ⟨by rw [Int.mul_sub, Int.mul_neg]; omega, by omega, by omega⟩
      exact this
    rw [this.1, this.2, if_pos (by omega)]
    omega
theorem quo3_of {a b rule : Int} (ha : -M ≤ a ∧ a ≤ M) (hb : 1 ≤ b ∧ b ≤ M) (hk : 1 ≤ rule ∧ rule ≤ 4) : quo3 a b rule = (rndQ a b rule, rndR a b rule, 0) := by
  unfold quo3
  rw [if_neg (by simp [isB, hk]), if_neg (by simp [divB]; unfold M at *; omega)]
theorem rndQ_bd {a b rule : Int} (ha : -M ≤ a ∧ a ≤ M) (hb : 1 ≤ b) : -M ≤ rndQ a b rule ∧ rndQ a b rule ≤ M + 1 := by
  have := rndQ_near (a := a) (b := b) (rule := rule)
  have := div_bound ha hb
  omega
theorem roundingOrder_walk (a more b rule : Int) (w : World) : Calls Try.prog 6 #[I a, I more, I b, I rule] w fun e w' => e = .returned (.bool true) ∧ Below w.heap.size w w' := by
  refine enterPlain tfine Try.func6 rfl 121 Try.ntmps6 [.c (.k (I a)), .c (.k (I more)), .c (.k (I b)), .c (.k (I rule))] [] rfl rfl trivial ⟨trivial, trivial, trivial, trivial, trivial⟩ ?_
  refine G.seqR tfine rfl trivial ?_
  refine G.seq (G.seqC tfine rfl trivial ?_)
  refine GO.callPlain rfl rfl rfl rfl (fun args w => Try.call11 args w) (fun ρ w hm _ => awake_any w) ?_
  refine GO.fin tfine rfl trivial ?_
  refine G.cond_false rfl (G.skip ?_)
  refine G.seq (G.seqR tfine rfl ?_ ?_)
  · simp [AllP, condB]
  refine G.cond rfl (fun h => ?_) (fun h => ?_)
  · refine G.seqR tfine rfl trivial ?_
    exact G.ret (endK.ret rfl rfl)
  refine G.skip ?_
  have hg : (0 ≤ more ∧ more ≤ M) ∧ a ≤ M := by simp at h; unfold M; omega
  refine G.seqC tfine rfl trivial ?_
  refine GO.callPlain rfl rfl rfl rfl (fun args w => Try.call12 args w) (fun ρ w hm _ => quotient_any a b rule w) ?_
  refine GO.fin tfine rfl trivial ?_
  refine G.seqC tfine rfl trivial ?_
  refine GO.callPlain rfl rfl rfl rfl (fun args w => Try.call12 args w) (fun ρ w hm _ => quotient_any (IntKind.i64.wrap (a + more)) b rule w) ?_
  refine GO.fin tfine rfl trivial ?_
  refine G.seqC tfine rfl trivial ?_
  refine GO.callPlain rfl rfl rfl rfl (fun args w => Try.call12 args w) (fun ρ w hm _ => quotient_any a b 1 w) ?_
  refine GO.fin tfine rfl trivial ?_
  refine G.seqC tfine rfl trivial ?_
  refine GO.callPlain rfl rfl rfl rfl (fun args w => Try.call12 args w) (fun ρ w hm _ => quotient_any a b 2 w) ?_
  refine GO.fin tfine rfl trivial ?_
  refine G.seq (G.seqR tfine rfl trivial ?_)
  refine G.cond rfl (fun h => ?_) (fun h => ?_)
  · refine G.seqR tfine rfl trivial ?_
    refine G.ret (endK.ret rfl (vb ?_))
    have := quo_err (a := a) (b := b) (rule := rule) (by simpa using h)
    simp [this.1]
  refine G.skip ?_
  obtain ⟨⟨ha, hb, hk⟩, e1, e2⟩ := quo_ok (a := a) (b := b) (rule := rule) (by simpa using h)
  have wn : IntKind.i64.wrap (0 - a) = -a := by rw [IntWalk.i64_in (0 - a) (by unfold M at *; omega)]; omega
  have wm : IntKind.i64.wrap (a + more) = a + more := IntWalk.i64_in _ (by unfold M at *; omega)
  have q1 := quo3_of (rule := 1) ha hb (by omega)
  have q2 := quo3_of (rule := 2) ha hb (by omega)
  have q3 := quo3_of (a := -a) (rule := 2) (by omega) hb (by omega)
  have q0 := quo3_of (rule := rule) ha hb hk
  refine G.seqC tfine rfl trivial ?_
  rw [wn]
  refine GO.callPlain rfl rfl rfl rfl (fun args w => Try.call12 args w) (fun ρ w hm _ => quotient_any (-a) b 2 w) ?_
  refine GO.fin tfine rfl trivial ?_
  rw [q0, q1, q2, q3, wm]
  refine G.seqR tfine rfl ?_ ?_
  · simp [AllP, condB]
    intros
    and_intros <;> assumption
  refine G.ret (endK.ret rfl (vb ?_))
  have b1 := rndQ_bd (rule := 1) ha hb.1
  have b2 := rndQ_bd (rule := 2) ha hb.1
  rw [IntWalk.i64_in (rndQ a b 2 - rndQ a b 1) (by unfold M at *; omega), IntWalk.i64_in (0 - rndQ a b 1) (by unfold M at *; omega)]
  have n0 := rndQ_near (a := a) (b := b) (rule := rule)
  have n2 := rndQ_near (a := a) (b := b) (rule := 2)
  have n3 := rndQ_le_up (a := a) (rule := rule) hb.1
  have d1 := rndQ_down (a := a) (b := b)
  have d2 := rndQ_neg (a := a) hb.1
  have last : (quo3 (a + more) b rule).2.2 = 0 → rndQ a b rule ≤ (quo3 (a + more) b rule).1 := by
    intro h
    rw [(quo_ok h).2.1]
    exact rndQ_mono hb.1 (by omega)
  rw [d1, d2]
  have c1 : a / b ≤ rndQ a b rule := n0.1
  have c2 : rndQ a b 2 - a / b ≤ 1 := by omega
  have c3 : -(a / b) = 0 - a / b := by omega
  by_cases h5 : (quo3 (a + more) b rule).2.2 = 0
  · have := last h5
    simp [c1, c2, n3, h5, this]
  · simp [c1, c2, n3, h5]
end Go.Proofs.Ytgpmoaolicpccaa
