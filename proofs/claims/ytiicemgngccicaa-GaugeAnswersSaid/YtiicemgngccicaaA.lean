/- Chapter 02: what the small functions of rounding compute. -/
import Derived.Test.YtiicemgngccicaaTy
import Derived.Test.YtiicemgngccicaaSxM
set_option linter.unusedVariables false
set_option linter.unusedSimpArgs false
namespace Go.Proofs.Ytiicemgngccicaa
open Go.Sx Go.RowKit
theorem hmix : Try.prog.follows .mixedOrders = true := by decide
abbrev I (n : Int) : Value := .int .i64 n
def isB (r : Int) : Bool := decide (r ≥ 1) && decide (r ≤ 4)
theorem is_any (r : Int) (w : World) : Calls Try.prog 86 #[I r] w fun e w' => e = .returned (.bool (isB r)) ∧ Below w.heap.size w w' := by
  refine enterPlain tfine Try.func86 rfl 9 Try.ntmps86 [.c (.k (I r))] [] rfl rfl trivial ⟨trivial, trivial⟩ ?_
  refine G.seqR tfine rfl trivial ?_
  refine G.seqR tfine rfl ?_ ?_
  · simp only [AllP, condB, imp_self, and_self]
  exact G.ret (endK.ret rfl (vb rfl))
def divB (b : Int) : Bool := decide (b ≥ 1) && decide (b ≤ 128849018880000)
theorem up1_any (q r b : Int) (w : World) : Calls Try.prog 94 #[I q, I r, I b] w fun e w' => e = .returned (.bool false) ∧ Below w.heap.size w w' := by
  refine enterPlain tfine Try.func94 rfl 7 Try.ntmps94 [.c (.k (I q)), .c (.k (I r)), .c (.k (I b))] [] rfl rfl trivial ⟨trivial, trivial, trivial, trivial⟩ ?_
  refine G.seqR tfine rfl trivial ?_
  refine G.seqR tfine rfl trivial ?_
  exact G.ret (endK.ret rfl (vb rfl))
theorem up2_any (q r b : Int) (w : World) : Calls Try.prog 95 #[I q, I r, I b] w fun e w' => e = .returned (.bool (decide (r > 0))) ∧ Below w.heap.size w w' := by
  refine enterPlain tfine Try.func95 rfl 9 Try.ntmps95 [.c (.k (I q)), .c (.k (I r)), .c (.k (I b))] [] rfl rfl trivial ⟨trivial, trivial, trivial, trivial⟩ ?_
  refine G.seqR tfine rfl trivial ?_
  refine G.seqR tfine rfl trivial ?_
  exact G.ret (endK.ret rfl (vb rfl))
theorem up3_any (q r b : Int) (w : World) : Calls Try.prog 96 #[I q, I r, I b] w fun e w' => e = .returned (.bool (decide (IntKind.i64.wrap (2 * r) ≥ b))) ∧ Below w.heap.size w w' := by
  refine enterPlain tfine Try.func96 rfl 11 Try.ntmps96 [.c (.k (I q)), .c (.k (I r)), .c (.k (I b))] [] rfl rfl trivial ⟨trivial, trivial, trivial, trivial⟩ ?_
  refine G.seqR tfine rfl trivial ?_
  refine G.seqR tfine rfl trivial ?_
  exact G.ret (endK.ret rfl (vb rfl))
theorem up4_any (q r b : Int) (w : World) : Calls Try.prog 97 #[I q, I r, I b] w fun e w' => e = .returned (.bool (decide (IntKind.i64.wrap (2 * r) > b) || ((IntKind.i64.wrap (2 * r) == b) && (q.tmod 2 != 0)))) ∧ Below w.heap.size w w' := by
  refine enterPlain tfine Try.func97 rfl 22 Try.ntmps97 [.c (.k (I q)), .c (.k (I r)), .c (.k (I b))] [] rfl rfl trivial ⟨trivial, trivial, trivial, trivial⟩ ?_
  refine G.seqR tfine rfl trivial ?_
  refine G.seqR tfine rfl ?_ ?_
  · simp [AllP, condB]; intros; omega
  exact G.ret (endK.ret rfl (vb rfl))
theorem ups_any (w : World) : Calls Try.prog 87 #[] w fun e w' => e = .returned (.agg #[.nilFunc, .func (.func 94) #[] #[], .func (.func 95) #[] #[], .func (.func 96) #[] #[], .func (.func 97) #[] #[]]) ∧ Below w.heap.size w w' := by
  refine enterPlain tfine Try.func87 rfl 2 Try.ntmps87 [] [] rfl rfl trivial trivial ?_
  refine G.seqR tfine rfl trivial ?_
  refine G.seqR tfine rfl trivial ?_
  exact G.ret (endK.ret rfl rfl)

/-- Whether a rule rounds up. -/
def upB (rule q r b : Int) : Bool := if rule = 1 then false else if rule = 2 then decide (r > 0) else if rule = 3 then decide (2 * r ≥ b) else decide (2 * r > b) || ((2 * r == b) && (q.tmod 2 != 0))
def rndQ (a b rule : Int) : Int := if upB rule (a / b) (a % b) b then a / b + 1 else a / b
def rndR (a b rule : Int) : Int := if upB rule (a / b) (a % b) b then a % b - b else a % b
abbrev M : Int := 128849018880000
theorem tdiv_neg_case {a b : Int} (hb : 1 ≤ b) (h : a.tmod b < 0) : a.tdiv b - 1 = a / b ∧ a.tmod b + b = a % b := by
  have h1 := Int.mul_tdiv_add_tmod a b
  have h2 := Int.tmod_lt_of_pos a (show 0 < b by omega)
  have h3 : -b < a.tmod b := by
    have := Int.lt_tmod_of_pos a (show 0 < b by omega)
    omega
  have key : (a.tdiv b - 1) * b + (a.tmod b + b) = a := by rw [Int.sub_mul, Int.mul_comm]; omega
  have := Int.ediv_emod_unique (a := a) (b := b) (r := a.tmod b + b) (q := a.tdiv b - 1) (by omega)
  have h4 := this.2 ⟨by rw [Int.mul_comm b]; omega, by omega, by omega⟩
  exact ⟨h4.1.symm, h4.2.symm⟩
theorem tdiv_pos_case {a b : Int} (hb : 1 ≤ b) (h : ¬ a.tmod b < 0) : a.tdiv b = a / b ∧ a.tmod b = a % b := by
  have h1 := Int.mul_tdiv_add_tmod a b
  have h2 := Int.tmod_lt_of_pos a (show 0 < b by omega)
  have := Int.ediv_emod_unique (a := a) (b := b) (r := a.tmod b) (q := a.tdiv b) (by omega)
  have h4 := this.2 ⟨by omega, by omega, by omega⟩
  exact ⟨h4.1.symm, h4.2.symm⟩
theorem div_bound {a b : Int} (ha : -M ≤ a ∧ a ≤ M) (hb : 1 ≤ b) : -M ≤ a / b ∧ a / b ≤ M := by
  constructor
  · refine (Int.le_ediv_iff_mul_le (by omega)).2 ?_
    have := Int.mul_le_mul_of_nonneg_left hb (show (0 : Int) ≤ M by decide)
    have e : -M * b = -(M * b) := Int.neg_mul _ _
    unfold M at *
    omega
  · rcases Int.lt_or_le a 0 with h | h
    · have := Int.ediv_neg_of_neg_of_pos h (show 0 < b by omega); unfold M at *; omega
    · have := Int.ediv_le_self b h; unfold M at *; omega
theorem tdiv_bound {a b : Int} (ha : -M ≤ a ∧ a ≤ M) (hb : 1 ≤ b) : -M ≤ a.tdiv b ∧ a.tdiv b ≤ M := by
  have h1 := Int.mul_tdiv_add_tmod a b
  have := div_bound ha hb
  by_cases h : a.tmod b < 0
  · have h4 := tdiv_neg_case hb h
    have h2 : a.tdiv b ≤ 0 := by
      rcases Int.lt_or_le a 0 with h3 | h3
      · rcases Int.lt_or_le 0 (a.tdiv b) with h5 | h5
        · have := Int.mul_pos (show 0 < b by omega) h5
          have h6 := Int.lt_tmod_of_pos a (show 0 < b by omega)
          have h7 : b * 1 ≤ b * a.tdiv b := Int.mul_le_mul_of_nonneg_left h5 (by omega)
          omega
        · exact h5
      · have := Int.tmod_nonneg b h3; omega
    unfold M at *
    omega
  · have := tdiv_pos_case hb h; omega
theorem tdiv_in {a b : Int} (ha : -M ≤ a ∧ a ≤ M) (hb : 1 ≤ b) : IntKind.i64.wrap (a.tdiv b) = a.tdiv b := IntWalk.i64_in _ (by have := tdiv_bound ha hb; unfold M at *; omega)
end Go.Proofs.Ytiicemgngccicaa
