/- Chapter 02: the reference's quotient and step are the program's. -/
import Derived.Test.YtbgbndiokckboaaB
set_option linter.unusedVariables false
set_option linter.unusedSimpArgs false
namespace Go.Proofs.Ytbgbndiokckboaa
open Go.Sx Go.RowKit
theorem refUp_eq {q r b rule : Int} (hb : 1 ≤ b) (hr : 0 ≤ r ∧ r < b) (hk : 1 ≤ rule ∧ rule ≤ 4) : refUp q r b rule = upB rule q r b := by
  unfold refUp upB
  rcases (show rule = 1 ∨ rule = 2 ∨ rule = 3 ∨ rule = 4 by omega) with rfl | rfl | rfl | rfl
  · simp
  · by_cases h : r = 0
    · simp [h]
    · have : 0 < r := by omega
      simp [h, this]
  · by_cases h : r = 0
    · subst h
      have : ¬ (b ≤ 0) := by omega
      simp [this]
    · by_cases h1 : r > b - r
      · have : b ≤ 2 * r := by omega
        simp [h, h1, this]
      · by_cases h2 : r < b - r
        · have : ¬ b ≤ 2 * r := by omega
          have h3 : ¬ (b - r < r) := by omega
          simp [h, h3, h2, this]
        · have h3 : ¬ (b - r < r) := by omega
          have : b ≤ 2 * r := by omega
          simp [h, h3, h2, this]
  · by_cases h : r = 0
    · subst h
      have h1 : ¬ (b < 0) := by omega
      have h2 : ¬ (0 = b) := by omega
      simp [h1, h2]
    · by_cases h1 : r > b - r
      · have : b < 2 * r := by omega
        simp [h, h1, this]
      · have h3 : ¬ (b - r < r) := by omega
        have h4 : ¬ b < 2 * r := by omega
        by_cases h2 : r < b - r
        · have : ¬ 2 * r = b := by omega
          simp [h, h3, h2, h4, this]
        · have : 2 * r = b := by omega
          simp [h, h3, h2, h4, this]
theorem refq_eq {a b rule : Int} (hb : 1 ≤ b) (hk : 1 ≤ rule ∧ rule ≤ 4) : (if refUp (a / b) (a % b) b rule = true then a / b + 1 else a / b) = rndQ a b rule ∧ a - rndQ a b rule * b = rndR a b rule := by
  have h0 := Int.emod_nonneg a (show b ≠ 0 by omega)
  have h1 := Int.emod_lt_of_pos a (show 0 < b by omega)
  have h2 := Int.mul_ediv_add_emod a b
  rw [refUp_eq hb ⟨h0, h1⟩ hk]
  refine ⟨rfl, ?_⟩
  unfold rndQ rndR
  split
  · rw [Int.add_mul, Int.mul_comm (a / b) b]; omega
  · rw [Int.mul_comm (a / b) b]; omega
theorem refQuotient_any (a b rule : Int) (w : World) : Calls Try.prog 39 #[I a, I b, I rule] w fun e w' => e = .returned (.tuple #[I (quo3 a b rule).1, I (quo3 a b rule).2.1, I (quo3 a b rule).2.2]) ∧ Below w.heap.size w w' := by
  refine enterPlain tfine Try.func39 rfl 52 Try.ntmps39 [.c (.k (I a)), .c (.k (I b)), .c (.k (I rule))] [] rfl rfl trivial ⟨trivial, trivial, trivial, trivial⟩ ?_
  refine G.seqR tfine rfl trivial ?_
  refine G.seq (G.seqC tfine rfl trivial ?_)
  refine GO.callPlain rfl rfl rfl rfl (fun args w => Try.call38 args w) (fun ρ w hm _ => refIs_any _ w) ?_
  refine GO.fin tfine rfl trivial ?_
  refine G.cond rfl (fun h => ?_) (fun h => ?_)
  · refine G.seqR tfine rfl trivial ?_
    refine G.ret (endK.ret rfl ?_)
    rw [quo3, h]; rfl
  refine G.skip ?_
  refine G.seq (G.seqR tfine rfl ?_ ?_)
  · simp [AllP, condB]
  have e : (decide (a < -128849018880000) || decide (a > 128849018880000) || decide (b < 1) || decide (b > 128849018880000)) = (decide (a < -128849018880000) || decide (a > 128849018880000) || !divB b) := by
    have : (!divB b) = (decide (b < 1) || decide (b > 128849018880000)) := by
      rw [Bool.eq_iff_iff]; simp [divB]
    rw [this, Bool.or_assoc]
  rw [e]
  refine G.cond rfl (fun h2 => ?_) (fun h2 => ?_)
  · refine G.seqR tfine rfl trivial ?_
    refine G.ret (endK.ret rfl ?_)
    rw [quo3, h, h2]; rfl
  refine G.skip ?_
  have hd : (-M ≤ a ∧ a ≤ M) ∧ divB b = true := by simp at h2; exact ⟨⟨by unfold M; omega, by unfold M; omega⟩, h2.2⟩
  have ha := hd.1
  have hb := divB_true hd.2
  have hk := isB_true (r := rule) (by simpa using h)
  refine G.seqD tfine hmix [0, 0, 3, 0, 0, 24, 7, 127] [] rfl rfl rfl rfl ⟨by omega, by omega, trivial⟩ ?_
  have hq := div_bound ha hb.1
  have hr0 := Int.emod_nonneg a (show b ≠ 0 by omega)
  have hr1 := Int.emod_lt_of_pos a (show 0 < b by omega)
  have hrr : -b < a.tmod b ∧ a.tmod b < b := ⟨by have := Int.lt_tmod_of_pos a (show 0 < b by omega); omega, Int.tmod_lt_of_pos a (by omega)⟩
  rw [tdiv_in ha hb.1]
  refine G.join (fun _ : Unit => St.of [(0, .v (.c (.k (I a)))), (1, .v (.c (.k (I b)))), (2, .v (.c (.k (I rule)))), (9, .v (.c (.k (I (a / b))))), (10, .v (.c (.k (I (a % b)))))] []) (fun _ => True) ?_ fun _ _ => ?_
  · refine G.seqR tfine rfl trivial ?_
    refine G.cond rfl (fun h => ?_) (fun h => ?_)
    · refine G.reg tfine rfl trivial ?_
      have h := of_decide_eq_true h
      have := tdiv_neg_case hb.1 h
      rw [IntWalk.i64_in _ (show _ from by unfold M at *; omega), IntWalk.i64_in _ (show _ from by unfold M at *; omega), this.1, this.2]
      exact ⟨(), trivial, St.le_of rfl trivial ⟨rfl, rfl, rfl, rfl, rfl, trivial⟩⟩
    · have h := of_decide_eq_false h
      rw [(tdiv_pos_case hb.1 h).1, (tdiv_pos_case hb.1 h).2]
      exact G.skip ⟨(), trivial, St.le_of rfl trivial ⟨rfl, rfl, rfl, rfl, rfl, trivial⟩⟩
  refine G.seqC tfine rfl trivial ?_
  refine GO.callPlain rfl rfl rfl rfl (fun args w => Try.call43 args w) (fun ρ w hm _ => round_any _ _ _ _ w hq hb ⟨hr0, hr1⟩) ?_
  refine GO.fin tfine rfl trivial ?_
  rw [(refq_eq hb.1 hk).1]
  refine G.seqR tfine rfl trivial ?_
  refine G.ret (endK.ret rfl ?_)
  have hz : rndQ a b rule * b = a - rndR a b rule := by have := (refq_eq (a := a) hb.1 hk).2; omega
  have hrb : -b ≤ rndR a b rule ∧ rndR a b rule ≤ b := by unfold rndR; split <;> omega
  rw [hz, IntWalk.i64_in (a - rndR a b rule) (by unfold M at *; omega), IntWalk.i64_in _ (by unfold M at *; omega)]
  rw [quo3, h, h2]
  simp only [Bool.false_eq_true, if_false]
  rw [show a - (a - rndR a b rule) = rndR a b rule by omega]
end Go.Proofs.Ytbgbndiokckboaa
