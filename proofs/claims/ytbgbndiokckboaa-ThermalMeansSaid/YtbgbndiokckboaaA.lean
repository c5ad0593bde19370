/- Chapter 02: what the small functions of rounding compute. -/
import Derived.Test.YtbgbndiokckboaaTy
import Derived.Test.YtbgbndiokckboaaSxM
set_option linter.unusedVariables false
set_option linter.unusedSimpArgs false
namespace Go.Proofs.Ytbgbndiokckboaa
open Go.Sx Go.RowKit
theorem hmix : Try.prog.follows .mixedOrders = true := by decide
abbrev I (n : Int) : Value := .int .i64 n
def isB (r : Int) : Bool := decide (r ≥ 1) && decide (r ≤ 4)
theorem is_any (r : Int) (w : World) : Calls Try.prog 47 #[I r] w fun e w' => e = .returned (.bool (isB r)) ∧ Below w.heap.size w w' := by
  refine enterPlain tfine Try.func47 rfl 9 Try.ntmps47 [.c (.k (I r))] [] rfl rfl trivial ⟨trivial, trivial⟩ ?_
  refine G.seqR tfine rfl trivial ?_
  refine G.seqR tfine rfl ?_ ?_
  · simp only [AllP, condB, imp_self, and_self]
  exact G.ret (endK.ret rfl (vb rfl))
def divB (b : Int) : Bool := decide (b ≥ 1) && decide (b ≤ 128849018880000)
theorem divisor_any (r : Int) (w : World) : Calls Try.prog 48 #[I r] w fun e w' => e = .returned (.bool (divB r)) ∧ Below w.heap.size w w' := by
  refine enterPlain tfine Try.func48 rfl 9 Try.ntmps48 [.c (.k (I r))] [] rfl rfl trivial ⟨trivial, trivial⟩ ?_
  refine G.seqR tfine rfl trivial ?_
  refine G.seqR tfine rfl ?_ ?_
  · simp only [AllP, condB, imp_self, and_self]
  exact G.ret (endK.ret rfl (vb rfl))
theorem up1_any (q r b : Int) (w : World) : Calls Try.prog 56 #[I q, I r, I b] w fun e w' => e = .returned (.bool false) ∧ Below w.heap.size w w' := by
  refine enterPlain tfine Try.func56 rfl 7 Try.ntmps56 [.c (.k (I q)), .c (.k (I r)), .c (.k (I b))] [] rfl rfl trivial ⟨trivial, trivial, trivial, trivial⟩ ?_
  refine G.seqR tfine rfl trivial ?_
  refine G.seqR tfine rfl trivial ?_
  exact G.ret (endK.ret rfl (vb rfl))
theorem up2_any (q r b : Int) (w : World) : Calls Try.prog 57 #[I q, I r, I b] w fun e w' => e = .returned (.bool (decide (r > 0))) ∧ Below w.heap.size w w' := by
  refine enterPlain tfine Try.func57 rfl 9 Try.ntmps57 [.c (.k (I q)), .c (.k (I r)), .c (.k (I b))] [] rfl rfl trivial ⟨trivial, trivial, trivial, trivial⟩ ?_
  refine G.seqR tfine rfl trivial ?_
  refine G.seqR tfine rfl trivial ?_
  exact G.ret (endK.ret rfl (vb rfl))
theorem up3_any (q r b : Int) (w : World) : Calls Try.prog 58 #[I q, I r, I b] w fun e w' => e = .returned (.bool (decide (IntKind.i64.wrap (2 * r) ≥ b))) ∧ Below w.heap.size w w' := by
  refine enterPlain tfine Try.func58 rfl 11 Try.ntmps58 [.c (.k (I q)), .c (.k (I r)), .c (.k (I b))] [] rfl rfl trivial ⟨trivial, trivial, trivial, trivial⟩ ?_
  refine G.seqR tfine rfl trivial ?_
  refine G.seqR tfine rfl trivial ?_
  exact G.ret (endK.ret rfl (vb rfl))
theorem up4_any (q r b : Int) (w : World) : Calls Try.prog 59 #[I q, I r, I b] w fun e w' => e = .returned (.bool (decide (IntKind.i64.wrap (2 * r) > b) || ((IntKind.i64.wrap (2 * r) == b) && (q.tmod 2 != 0)))) ∧ Below w.heap.size w w' := by
  refine enterPlain tfine Try.func59 rfl 22 Try.ntmps59 [.c (.k (I q)), .c (.k (I r)), .c (.k (I b))] [] rfl rfl trivial ⟨trivial, trivial, trivial, trivial⟩ ?_
  refine G.seqR tfine rfl trivial ?_
  refine G.seqR tfine rfl ?_ ?_
  · simp [AllP, condB]; intros; omega
  exact G.ret (endK.ret rfl (vb rfl))
theorem ups_any (w : World) : Calls Try.prog 50 #[] w fun e w' => e = .returned (.agg #[.nilFunc, .func (.func 56) #[] #[], .func (.func 57) #[] #[], .func (.func 58) #[] #[], .func (.func 59) #[] #[]]) ∧ Below w.heap.size w w' := by
  refine enterPlain tfine Try.func50 rfl 2 Try.ntmps50 [] [] rfl rfl trivial trivial ?_
  refine G.seqR tfine rfl trivial ?_
  refine G.seqR tfine rfl trivial ?_
  exact G.ret (endK.ret rfl rfl)

/-- Whether a rule rounds up. -/
def upB (rule q r b : Int) : Bool := if rule = 1 then false else if rule = 2 then decide (r > 0) else if rule = 3 then decide (2 * r ≥ b) else decide (2 * r > b) || ((2 * r == b) && (q.tmod 2 != 0))
def rndQ (a b rule : Int) : Int := if upB rule (a / b) (a % b) b then a / b + 1 else a / b
def rndR (a b rule : Int) : Int := if upB rule (a / b) (a % b) b then a % b - b else a % b
abbrev M : Int := 128849018880000
theorem tdiv_neg_case {a b : Int} (hb : 1 ≤ b) (h : a.tmod b < 0) : a.tdiv b - 1 = a / b ∧ a.tmod b + b = a % b := by
  have h1 := Int.mul_tdiv_add_tmod a b
  have h2 := Int.tmod_lt_of_pos a (show 0 < b by omega)
  have h3 : -b < a.tmod b := by
    have := Int.lt_tmod_of_pos a (show 0 < b by omega)
    omega
  have key : (a.tdiv b - 1) * b + (a.tmod b + b) = a := by rw [Int.sub_mul, Int.mul_comm]; omega
  have := Int.ediv_emod_unique (a := a) (b := b) (r := a.tmod b + b) (q := a.tdiv b - 1) (by omega)
  have h4 := this.2 ⟨by rw [Int.mul_comm b]; omega, by omega, by omega⟩
  exact ⟨h4.1.symm, h4.2.symm⟩
theorem tdiv_pos_case {a b : Int} (hb : 1 ≤ b) (h : ¬ a.tmod b < 0) : a.tdiv b = a / b ∧ a.tmod b = a % b := by
  have h1 := Int.mul_tdiv_add_tmod a b
  have h2 := Int.tmod_lt_of_pos a (show 0 < b by omega)
  have := Int.ediv_emod_unique (a := a) (b := b) (r := a.tmod b) (q := a.tdiv b) (by omega)
  have h4 := this.2 ⟨by omega, by omega, by omega⟩
  exact ⟨h4.1.symm, h4.2.symm⟩
theorem div_bound {a b : Int} (ha : -M ≤ a ∧ a ≤ M) (hb : 1 ≤ b) : -M ≤ a / b ∧ a / b ≤ M := by
  constructor
  · refine (Int.le_ediv_iff_mul_le (by omega)).2 ?_
    have := Int.mul_le_mul_of_nonneg_left hb (show (0 : Int) ≤ M by decide)
    have e : -M * b = -(M * b) := Int.neg_mul _ _
    unfold M at *
    omega
  · rcases Int.lt_or_le a 0 with h | h
    · have := Int.ediv_neg_of_neg_of_pos h (show 0 < b by omega); unfold M at *; omega
    · have := Int.ediv_le_self b h; unfold M at *; omega
theorem tdiv_bound {a b : Int} (ha : -M ≤ a ∧ a ≤ M) (hb : 1 ≤ b) : -M ≤ a.tdiv b ∧ a.tdiv b ≤ M := by
  have h1 := Int.mul_tdiv_add_tmod a b
  have := div_bound ha hb
  by_cases h : a.tmod b < 0
  · have h4 := tdiv_neg_case hb h
    have h2 : a.tdiv b ≤ 0 := by
      rcases Int.lt_or_le a 0 with h3 | h3
      · rcases Int.lt_or_le 0 (a.tdiv b) with h5 | h5
        · have := Int.mul_pos (show 0 < b by omega) h5
          have h6 := Int.lt_tmod_of_pos a (show 0 < b by omega)
          have h7 : b * 1 ≤ b * a.tdiv b := Int.mul_le_mul_of_nonneg_left h5 (by omega)
          omega
        · exact h5
      · have := Int.tmod_nonneg b h3; omega
    unfold M at *
    omega
  · have := tdiv_pos_case hb h; omega
theorem tdiv_in {a b : Int} (ha : -M ≤ a ∧ a ≤ M) (hb : 1 ≤ b) : IntKind.i64.wrap (a.tdiv b) = a.tdiv b := IntWalk.i64_in _ (by have := tdiv_bound ha hb; unfold M at *; omega)
theorem rounded_any (a b rule : Int) (w : World) (ha : -M ≤ a ∧ a ≤ M) (hb : 1 ≤ b ∧ b ≤ M) (hr : 1 ≤ rule ∧ rule ≤ 4) :
    Calls Try.prog 49 #[I a, I b, I rule] w fun e w' => e = .returned (.tuple #[I (rndQ a b rule), I (rndR a b rule)]) ∧ Below w.heap.size w w' := by
  refine enterPlain tfine Try.func49 rfl 37 Try.ntmps49 [.c (.k (I a)), .c (.k (I b)), .c (.k (I rule))] [] rfl rfl trivial ⟨trivial, trivial, trivial, trivial⟩ ?_
  refine G.seqR tfine rfl trivial ?_
  refine G.seqD tfine hmix [0, 0, 3, 0, 0, 24, 7, 127] [] rfl rfl rfl rfl ⟨by omega, by omega, trivial⟩ ?_
  have hrr : -b < a.tmod b ∧ a.tmod b < b := ⟨by have := Int.lt_tmod_of_pos a (show 0 < b by omega); omega, Int.tmod_lt_of_pos a (by omega)⟩
  have e1 := tdiv_in ha hb.1
  have hq := tdiv_bound ha hb.1
  rw [e1]
  refine G.join (fun _ : Unit => St.of [(0, .v (.c (.k (I a)))), (1, .v (.c (.k (I b)))), (2, .v (.c (.k (I rule)))), (8, .v (.c (.k (I (a / b))))), (9, .v (.c (.k (I (a % b)))))] []) (fun _ => True) ?_ fun _ _ => ?_
  · refine G.seqR tfine rfl trivial ?_
    refine G.cond rfl (fun h => ?_) (fun h => ?_)
    · refine G.reg tfine rfl trivial ?_
      have h := of_decide_eq_true h
      rw [IntWalk.i64_in _ (show _ from by unfold M at *; omega), IntWalk.i64_in _ (show _ from by unfold M at *; omega), (tdiv_neg_case hb.1 h).1, (tdiv_neg_case hb.1 h).2]
      exact ⟨(), trivial, St.le_of rfl trivial ⟨rfl, rfl, rfl, rfl, rfl, trivial⟩⟩
    · have h := of_decide_eq_false h
      rw [(tdiv_pos_case hb.1 h).1, (tdiv_pos_case hb.1 h).2]
      exact G.skip ⟨(), trivial, St.le_of rfl trivial ⟨rfl, rfl, rfl, rfl, rfl, trivial⟩⟩
  clear e1 hq hrr
  have hq := div_bound ha hb.1
  have hr0 := Int.emod_nonneg a (show b ≠ 0 by omega)
  have hr1 := Int.emod_lt_of_pos a (show 0 < b by omega)
  refine G.seq (G.seqC tfine rfl trivial ?_)
  refine GO.callPlain rfl rfl rfl rfl (fun args w => Try.call50 args w) (fun ρ w hm _ => ups_any w) ?_
  have e2 : IntKind.i64.wrap (2 * (a % b)) = 2 * (a % b) := IntWalk.i64_in _ (by unfold M at *; omega)
  rcases (show rule = 1 ∨ rule = 2 ∨ rule = 3 ∨ rule = 4 by omega) with rfl | rfl | rfl | rfl
  · refine GO.more tfine rfl ⟨by omega, by omega, trivial⟩ ?_
    refine GO.callPlain rfl rfl rfl rfl (fun args w => Try.call56 args w) (fun ρ w hm _ => up1_any _ _ _ w) (GO.nil ?_)
    refine G.cond_false rfl ?_
    refine G.skip ?_
    refine G.seqR tfine rfl trivial ?_
    refine G.ret (endK.ret rfl ?_)
    rfl
  · refine GO.more tfine rfl ⟨by omega, by omega, trivial⟩ ?_
    refine GO.callPlain rfl rfl rfl rfl (fun args w => Try.call57 args w) (fun ρ w hm _ => up2_any _ _ _ w) (GO.nil ?_)
    refine G.cond rfl (fun h => ?_) (fun h => ?_)
    · refine G.seqR tfine rfl trivial ?_
      refine G.ret (endK.ret rfl ?_)
      rw [IntWalk.i64_in _ (show _ from by unfold M at *; omega), IntWalk.i64_in _ (show _ from by unfold M at *; omega)]
      simp [rndQ, rndR, upB, of_decide_eq_true h]
    · refine G.skip ?_
      refine G.seqR tfine rfl trivial ?_
      refine G.ret (endK.ret rfl ?_)
      have := of_decide_eq_false h
      simp [rndQ, rndR, upB, this]
  · refine GO.more tfine rfl ⟨by omega, by omega, trivial⟩ ?_
    refine GO.callPlain rfl rfl rfl rfl (fun args w => Try.call58 args w) (fun ρ w hm _ => up3_any _ _ _ w) (GO.nil ?_)
    rw [e2]
    refine G.cond rfl (fun h => ?_) (fun h => ?_)
    · refine G.seqR tfine rfl trivial ?_
      refine G.ret (endK.ret rfl ?_)
      rw [IntWalk.i64_in _ (show _ from by unfold M at *; omega), IntWalk.i64_in _ (show _ from by unfold M at *; omega)]
      simp [rndQ, rndR, upB, of_decide_eq_true h]
    · refine G.skip ?_
      refine G.seqR tfine rfl trivial ?_
      refine G.ret (endK.ret rfl ?_)
      have := of_decide_eq_false h
      simp [rndQ, rndR, upB, this]
  · refine GO.more tfine rfl ⟨by omega, by omega, trivial⟩ ?_
    refine GO.callPlain rfl rfl rfl rfl (fun args w => Try.call59 args w) (fun ρ w hm _ => up4_any _ _ _ w) (GO.nil ?_)
    rw [e2]
    refine G.cond rfl (fun h => ?_) (fun h => ?_)
    · refine G.seqR tfine rfl trivial ?_
      refine G.ret (endK.ret rfl ?_)
      rw [IntWalk.i64_in _ (show _ from by unfold M at *; omega), IntWalk.i64_in _ (show _ from by unfold M at *; omega)]
      simp only [rndQ, rndR, upB, h]
      rfl
    · refine G.skip ?_
      refine G.seqR tfine rfl trivial ?_
      refine G.ret (endK.ret rfl ?_)
      simp only [rndQ, rndR, upB, h]
      rfl
end Go.Proofs.Ytbgbndiokckboaa
