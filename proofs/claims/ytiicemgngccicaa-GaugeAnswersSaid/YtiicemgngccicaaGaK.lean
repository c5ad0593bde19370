/- Chapter 15: the walk of GaugeAnswers. -/
import Derived.Test.YtiicemgngccicaaGaJ
set_option linter.unusedVariables false
set_option linter.unusedSimpArgs false
set_option maxRecDepth 8000
set_option maxHeartbeats 1000000
namespace Go.Proofs.Ytiicemgngccicaa
open Go.Sx Go.RowKit
def spilelaw15_GaugeAnswers (x0_0 : Int) (x0_1 : Int) (x0_2 : Int) (x0_3 : Int) (x0_4 : Int) (x0_5 : Int) (x0_6 : Int) (x0_7 : Int) (x1 : Int) : Bool := if (((gauge_Differ x0_0 x0_1 x0_2 x0_3 x0_4 x0_5 x0_6 x0_7 x1).2.2.2) != (0 : Int)) = true then ((((((gauge_Differ x0_0 x0_1 x0_2 x0_3 x0_4 x0_5 x0_6 x0_7 x1).1) == (0 : Int)) && (((gauge_Differ x0_0 x0_1 x0_2 x0_3 x0_4 x0_5 x0_6 x0_7 x1).2.1) == (0 : Int))) && (((gauge_Differ x0_0 x0_1 x0_2 x0_3 x0_4 x0_5 x0_6 x0_7 x1).2.2.1) == (0 : Int))) && (((!(gauge_Right x0_0 x0_1 x0_2 x0_3 x0_4 x0_5 x0_6 x0_7)) || (decide (x1 < (0 : Int)))) || (decide (x1 > (343597383680000 : Int))))) else if (((!(gauge_Right x0_0 x0_1 x0_2 x0_3 x0_4 x0_5 x0_6 x0_7)) || ((IntKind.i64.wrap (((gauge_Differ x0_0 x0_1 x0_2 x0_3 x0_4 x0_5 x0_6 x0_7 x1).2.1) - ((gauge_Differ x0_0 x0_1 x0_2 x0_3 x0_4 x0_5 x0_6 x0_7 x1).1))) != (IntKind.i64.wrap (x0_7 - x0_6)))) || ((IntKind.i64.wrap (((gauge_Differ x0_0 x0_1 x0_2 x0_3 x0_4 x0_5 x0_6 x0_7 x1).1) + x0_7)) != x1)) = true then (false) else (((((gauge_Differ x0_0 x0_1 x0_2 x0_3 x0_4 x0_5 x0_6 x0_7 x1).2.2.1) == (1 : Int)) == ((decide (x0_6 ≤ x1)) && (decide (x1 ≤ x0_7)))) && ((((gauge_Differ x0_0 x0_1 x0_2 x0_3 x0_4 x0_5 x0_6 x0_7 x1).2.2.1) == (1 : Int)) || (((gauge_Differ x0_0 x0_1 x0_2 x0_3 x0_4 x0_5 x0_6 x0_7 x1).2.2.1) == (2 : Int))))
theorem spilelaw15_GaugeAnswers_any (x0_0 : Int) (x0_1 : Int) (x0_2 : Int) (x0_3 : Int) (x0_4 : Int) (x0_5 : Int) (x0_6 : Int) (x0_7 : Int) (x1 : Int) (w : World) : Calls Try.prog 5 #[.agg #[I x0_0, I x0_1, I x0_2, I x0_3, I x0_4, I x0_5, I x0_6, I x0_7], I x1] w fun e w' => e = .returned (.bool (spilelaw15_GaugeAnswers x0_0 x0_1 x0_2 x0_3 x0_4 x0_5 x0_6 x0_7 x1)) ∧ Below w.heap.size w w' := by
  refine enterPlain tfine Try.func5 rfl 90 Try.ntmps5 [.agg [.k (I x0_0), .k (I x0_1), .k (I x0_2), .k (I x0_3), .k (I x0_4), .k (I x0_5), .k (I x0_6), .k (I x0_7)], .c (.k (I x1))] [] rfl rfl trivial ⟨⟨trivial, trivial, trivial, trivial, trivial, trivial, trivial, trivial, trivial⟩, trivial, trivial⟩ ?_
  refine G.seqR tfine rfl ?_ ?_
  · first | trivial | (simp [AllP, condB]; done) | (simp only [AllP]; and_intros <;> first | trivial | decide | omega) | (simp [AllP, condB]; intros; and_intros <;> first | assumption | omega) | (simp [AllP, condB]; intros; simp_all; done) | (simp [AllP, condB]; intros; simp_all; omega) | (simp [AllP, condB]; omega)
  refine G.seq ?_
  refine G.seqC tfine rfl ?_ ?_
  · first | trivial | (simp [AllP, condB]; done) | (simp only [AllP]; and_intros <;> first | trivial | decide | omega) | (simp [AllP, condB]; intros; and_intros <;> first | assumption | omega) | (simp [AllP, condB]; intros; simp_all; done) | (simp [AllP, condB]; intros; simp_all; omega) | (simp [AllP, condB]; omega)
  refine GO.callPlain (v := .bool true)  rfl rfl rfl rfl (fun args w => Try.call9 args w) (fun ρ w hs hok => awake_any w) ?_
  refine GO.fin tfine rfl ?_ ?_
  · first | trivial | (simp [AllP, condB]; done) | (simp only [AllP]; and_intros <;> first | trivial | decide | omega) | (simp [AllP, condB]; intros; and_intros <;> first | assumption | omega) | (simp [AllP, condB]; intros; simp_all; done) | (simp [AllP, condB]; intros; simp_all; omega) | (simp [AllP, condB]; omega)
  refine G.cond_false rfl ?_
  refine G.skip ?_
  refine G.seqC tfine rfl ?_ ?_
  · first | trivial | (simp [AllP, condB]; done) | (simp only [AllP]; and_intros <;> first | trivial | decide | omega) | (simp [AllP, condB]; intros; and_intros <;> first | assumption | omega) | (simp [AllP, condB]; intros; simp_all; done) | (simp [AllP, condB]; intros; simp_all; omega) | (simp [AllP, condB]; omega)
  refine GO.callPlain (v := .tuple #[.agg #[I ((gauge_Differ x0_0 x0_1 x0_2 x0_3 x0_4 x0_5 x0_6 x0_7 x1).1), I ((gauge_Differ x0_0 x0_1 x0_2 x0_3 x0_4 x0_5 x0_6 x0_7 x1).2.1)], I ((gauge_Differ x0_0 x0_1 x0_2 x0_3 x0_4 x0_5 x0_6 x0_7 x1).2.2.1), I ((gauge_Differ x0_0 x0_1 x0_2 x0_3 x0_4 x0_5 x0_6 x0_7 x1).2.2.2)])  rfl rfl rfl rfl (fun args w => Try.call19 args w) (fun ρ w hs hok => gauge_Differ_any _ _ _ _ _ _ _ _ _ w) ?_
  refine GO.fin tfine rfl ?_ ?_
  · first | trivial | (simp [AllP, condB]; done) | (simp only [AllP]; and_intros <;> first | trivial | decide | omega) | (simp [AllP, condB]; intros; and_intros <;> first | assumption | omega) | (simp [AllP, condB]; intros; simp_all; done) | (simp [AllP, condB]; intros; simp_all; omega) | (simp [AllP, condB]; omega)
  refine G.seq ?_
  refine G.seqR tfine rfl ?_ ?_
  · first | trivial | (simp [AllP, condB]; done) | (simp only [AllP]; and_intros <;> first | trivial | decide | omega) | (simp [AllP, condB]; intros; and_intros <;> first | assumption | omega) | (simp [AllP, condB]; intros; simp_all; done) | (simp [AllP, condB]; intros; simp_all; omega) | (simp [AllP, condB]; omega)
  refine G.cond (b := ((gauge_Differ x0_0 x0_1 x0_2 x0_3 x0_4 x0_5 x0_6 x0_7 x1).2.2.2) != (0 : Int)) rfl (fun h1 => ?_) (fun h1 => ?_)
  · refine G.seqC tfine rfl ?_ ?_
    · first | trivial | (simp [AllP, condB]; done) | (simp only [AllP]; and_intros <;> first | trivial | decide | omega) | (simp [AllP, condB]; intros; and_intros <;> first | assumption | omega) | (simp [AllP, condB]; intros; simp_all; done) | (simp [AllP, condB]; intros; simp_all; omega) | (simp [AllP, condB]; omega)
    refine GO.structEq false [I ((gauge_Differ x0_0 x0_1 x0_2 x0_3 x0_4 x0_5 x0_6 x0_7 x1).1), I ((gauge_Differ x0_0 x0_1 x0_2 x0_3 x0_4 x0_5 x0_6 x0_7 x1).2.1)] [I (0 : Int), I (0 : Int)] (((((gauge_Differ x0_0 x0_1 x0_2 x0_3 x0_4 x0_5 x0_6 x0_7 x1).1) == (0 : Int)) && (((gauge_Differ x0_0 x0_1 x0_2 x0_3 x0_4 x0_5 x0_6 x0_7 x1).2.1) == (0 : Int)))) rfl cmp_api_Bounds rfl rfl rfl rfl rfl (by kernel_rfl) ?_
    refine GO.more tfine rfl ?_ ?_
    · first | trivial | (simp [AllP, condB]; done) | (simp only [AllP]; and_intros <;> first | trivial | decide | omega) | (simp [AllP, condB]; intros; and_intros <;> first | assumption | omega) | (simp [AllP, condB]; intros; simp_all; done) | (simp [AllP, condB]; intros; simp_all; omega) | (simp [AllP, condB]; omega)
    refine GO.callGuard (.bool (gauge_Right x0_0 x0_1 x0_2 x0_3 x0_4 x0_5 x0_6 x0_7)) rfl rfl rfl (by first | exact trivial | exact ⟨id, trivial⟩ | exact ⟨id, id, trivial⟩ | exact ⟨id, id, id, trivial⟩ | exact ⟨id, id, id, id, trivial⟩) rfl rfl (fun args w => Try.call18 args w) rfl (fun _ m' hle ρ w hs hok => gauge_Right_any _ _ _ _ _ _ _ _ w) ?_
    refine GO.fin tfine rfl ?_ ?_
    · first | trivial | (simp [AllP, condB]; done) | (simp only [AllP]; and_intros <;> first | trivial | decide | omega) | (simp [AllP, condB]; intros; and_intros <;> first | assumption | omega) | (simp [AllP, condB]; intros; simp_all; done) | (simp [AllP, condB]; intros; simp_all; omega) | (simp [AllP, condB]; omega)
    refine G.ret (endK.ret rfl ?_)
    first | (rw [spilelaw15_GaugeAnswers, if_pos h1]; done) | (rw [spilelaw15_GaugeAnswers, if_pos h1]; rfl)
  refine G.skip ?_
  refine G.seq ?_
  refine G.seqC tfine rfl ?_ ?_
  · first | trivial | (simp [AllP, condB]; done) | (simp only [AllP]; and_intros <;> first | trivial | decide | omega) | (simp [AllP, condB]; intros; and_intros <;> first | assumption | omega) | (simp [AllP, condB]; intros; simp_all; done) | (simp [AllP, condB]; intros; simp_all; omega) | (simp [AllP, condB]; omega)
  refine GO.callPlain (v := .bool (gauge_Right x0_0 x0_1 x0_2 x0_3 x0_4 x0_5 x0_6 x0_7))  rfl rfl rfl rfl (fun args w => Try.call18 args w) (fun ρ w hs hok => gauge_Right_any _ _ _ _ _ _ _ _ w) ?_
  refine GO.fin tfine rfl ?_ ?_
  · first | trivial | (simp [AllP, condB]; done) | (simp only [AllP]; and_intros <;> first | trivial | decide | omega) | (simp [AllP, condB]; intros; and_intros <;> first | assumption | omega) | (simp [AllP, condB]; intros; simp_all; done) | (simp [AllP, condB]; intros; simp_all; omega) | (simp [AllP, condB]; omega)
  refine G.cond (b := ((!(gauge_Right x0_0 x0_1 x0_2 x0_3 x0_4 x0_5 x0_6 x0_7)) || ((IntKind.i64.wrap (((gauge_Differ x0_0 x0_1 x0_2 x0_3 x0_4 x0_5 x0_6 x0_7 x1).2.1) - ((gauge_Differ x0_0 x0_1 x0_2 x0_3 x0_4 x0_5 x0_6 x0_7 x1).1))) != (IntKind.i64.wrap (x0_7 - x0_6)))) || ((IntKind.i64.wrap (((gauge_Differ x0_0 x0_1 x0_2 x0_3 x0_4 x0_5 x0_6 x0_7 x1).1) + x0_7)) != x1)) rfl (fun h2 => ?_) (fun h2 => ?_)
  · refine G.seqR tfine rfl ?_ ?_
    · first | trivial | (simp [AllP, condB]; done) | (simp only [AllP]; and_intros <;> first | trivial | decide | omega) | (simp [AllP, condB]; intros; and_intros <;> first | assumption | omega) | (simp [AllP, condB]; intros; simp_all; done) | (simp [AllP, condB]; intros; simp_all; omega) | (simp [AllP, condB]; omega)
    refine G.ret (endK.ret rfl ?_)
    first | (rw [spilelaw15_GaugeAnswers, if_neg (fne h1), if_pos h2]; done) | (rw [spilelaw15_GaugeAnswers, if_neg (fne h1), if_pos h2]; rfl)
  refine G.skip ?_
  refine G.seqR tfine rfl ?_ ?_
  · first | trivial | (simp [AllP, condB]; done) | (simp only [AllP]; and_intros <;> first | trivial | decide | omega) | (simp [AllP, condB]; intros; and_intros <;> first | assumption | omega) | (simp [AllP, condB]; intros; simp_all; done) | (simp [AllP, condB]; intros; simp_all; omega) | (simp [AllP, condB]; omega)
  refine G.ret (endK.ret rfl ?_)
  first | (rw [spilelaw15_GaugeAnswers, if_neg (fne h1), if_neg (fne h2)]; done) | (rw [spilelaw15_GaugeAnswers, if_neg (fne h1), if_neg (fne h2)]; rfl)
theorem differ_bad {r : Rep} {x : Int} (h : okR r = false) : gauge_Differ r.d r.p r.h r.s r.vl r.vh r.al r.ah x = (0, 0, 0, 1) := by
  unfold gauge_Differ
  rw [show gauge_Right r.d r.p r.h r.s r.vl r.vh r.al r.ah = okR r from rfl, h]; rfl
theorem differ_ok {r : Rep} {x : Int} (h : okR r = true) : gauge_Differ r.d r.p r.h r.s r.vl r.vh r.al r.ah x = if (decide (x < 0) || decide (x > 343597383680000)) = true then (0, 0, 0, 2) else (x - r.ah, x - r.al, if (decide (r.al ≤ x) && decide (x ≤ r.ah)) = true then 1 else 2, 0) := by
  have hf := okR_facts h
  have m1 : 0 ≤ r.vl * r.s := Int.mul_nonneg hf.2.1 hf.1.1
  have m2 : r.vl * r.s ≤ r.vh * r.s := Int.mul_le_mul_of_nonneg_right hf.2.2.1 hf.1.1
  have m3 : r.vh * r.s ≤ 34359738368 * 10000 := Int.mul_le_mul hf.2.2.2.1 hf.1.2 hf.1.1 (by decide)
  rw [← hf.2.2.2.2.1] at m1 m2
  rw [← hf.2.2.2.2.2] at m2 m3
  unfold gauge_Differ
  rw [show gauge_Right r.d r.p r.h r.s r.vl r.vh r.al r.ah = okR r from rfl, h]
  have e : (!(gauge_in x 0 343597383680000)) = (decide (x < 0) || decide (x > 343597383680000)) := by
    unfold gauge_in
    rw [Bool.eq_iff_iff]
    simp
  rw [e, if_neg (by simp)]
  split
  · rfl
  · rename_i h1
    simp only [Bool.or_eq_true, decide_eq_true_eq, not_or] at h1
    rw [IntWalk.i64_in (x - r.ah) (by omega), IntWalk.i64_in (x - r.al) (by omega)]
    have e2 : gauge_in 0 (x - r.ah) (x - r.al) = (decide (r.al ≤ x) && decide (x ≤ r.ah)) := by
      unfold gauge_in
      rw [Bool.eq_iff_iff]
      simp
      omega
    rw [e2]
    split <;> rfl
theorem answers_true (r : Rep) (x : Int) : spilelaw15_GaugeAnswers r.d r.p r.h r.s r.vl r.vh r.al r.ah x = true := by
  unfold spilelaw15_GaugeAnswers
  rw [show gauge_Right r.d r.p r.h r.s r.vl r.vh r.al r.ah = okR r from rfl]
  cases ho : okR r with
  | false =>
    rw [differ_bad ho]
    rfl
  | true =>
    rw [differ_ok ho]
    have hf := okR_facts ho
    have m1 : 0 ≤ r.vl * r.s := Int.mul_nonneg hf.2.1 hf.1.1
    have m2 : r.vl * r.s ≤ r.vh * r.s := Int.mul_le_mul_of_nonneg_right hf.2.2.1 hf.1.1
    have m3 : r.vh * r.s ≤ 34359738368 * 10000 := Int.mul_le_mul hf.2.2.2.1 hf.1.2 hf.1.1 (by decide)
    rw [← hf.2.2.2.2.1] at m1 m2
    rw [← hf.2.2.2.2.2] at m2 m3
    by_cases h1 : (decide (x < 0) || decide (x > 343597383680000)) = true
    · rw [if_pos h1]
      simp only [Bool.or_eq_true, decide_eq_true_eq] at h1
      simp
      omega
    · rw [if_neg h1]
      simp only [Bool.or_eq_true, decide_eq_true_eq, not_or] at h1
      simp only
      rw [if_neg (by decide), IntWalk.i64_in (x - r.al - (x - r.ah)) (by omega), IntWalk.i64_in (r.ah - r.al) (by omega), IntWalk.i64_in (x - r.ah + r.ah) (by omega), if_neg (by simp; omega)]
      cases (decide (r.al ≤ x) && decide (x ≤ r.ah)) <;> rfl
theorem gaugeAnswers_walk (a0 a1 a2 a3 a4 a5 a6 a7 x : Int) (w : World) : Calls Try.prog 5 #[.agg #[I a0, I a1, I a2, I a3, I a4, I a5, I a6, I a7], I x] w fun e w' => e = .returned (.bool true) ∧ Below w.heap.size w w' := by
  have := spilelaw15_GaugeAnswers_any a0 a1 a2 a3 a4 a5 a6 a7 x w
  rwa [answers_true ⟨a0, a1, a2, a3, a4, a5, a6, a7⟩ x] at this
end Go.Proofs.Ytiicemgngccicaa
