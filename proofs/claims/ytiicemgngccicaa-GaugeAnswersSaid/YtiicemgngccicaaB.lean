/- Chapter 02: what the quotient and the step compute, in the program and in the reference. -/
import Derived.Test.YtiicemgngccicaaA
set_option linter.unusedVariables false
set_option linter.unusedSimpArgs false
namespace Go.Proofs.Ytiicemgngccicaa
open Go.Sx Go.RowKit
theorem refIs_any (r : Int) (w : World) : Calls Try.prog 70 #[I r] w fun e w' => e = .returned (.bool (isB r)) ∧ Below w.heap.size w w' := by
  refine enterPlain tfine Try.func70 rfl 9 Try.ntmps70 [.c (.k (I r))] [] rfl rfl trivial ⟨trivial, trivial⟩ ?_
  refine G.seqR tfine rfl trivial ?_
  refine G.seqR tfine rfl ?_ ?_
  · simp only [AllP, condB, imp_self, and_self]
  exact G.ret (endK.ret rfl (vb rfl))
theorem isB_true {r : Int} (h : isB r = true) : 1 ≤ r ∧ r ≤ 4 := by simpa [isB] using h
theorem divB_true {r : Int} (h : divB r = true) : 1 ≤ r ∧ r ≤ M := by simpa [divB] using h
/-- The quotient, its rest and the error. -/
def quo3 (a b rule : Int) : Int × Int × Int := if (!isB rule) = true then (0, 0, 1) else if (decide (a < -128849018880000) || decide (a > 128849018880000) || !divB b) = true then (0, 0, 2) else (rndQ a b rule, rndR a b rule, 0)
def ret3 (x : Int × Int × Int) : Value := .tuple #[I x.1, I x.2.1, I x.2.2]
def step2 (a b rule : Int) : Int × Int := (IntKind.i64.wrap ((quo3 a b rule).1 * b), (quo3 a b rule).2.2)
/-- What the reference's Round computes. -/
def refUp (q r b rule : Int) : Bool := if (r == 0 || rule == 1) = true then false else if (rule == 2 || decide (r > b - r)) = true then true else if decide (r < b - r) = true then false else (rule == 3 || q.tmod 2 != 0)
theorem round_any (q r b rule : Int) (w : World) (hq : -M ≤ q ∧ q ≤ M) (hb : 1 ≤ b ∧ b ≤ M) (hr : 0 ≤ r ∧ r < b) : Calls Try.prog 79 #[I q, I r, I b, I rule] w fun e w' => e = .returned (I (if refUp q r b rule = true then q + 1 else q)) ∧ Below w.heap.size w w' := by
  refine enterPlain tfine Try.func79 rfl 43 Try.ntmps79 [.c (.k (I q)), .c (.k (I r)), .c (.k (I b)), .c (.k (I rule))] [] rfl rfl trivial ⟨trivial, trivial, trivial, trivial, trivial⟩ ?_
  have e1 : IntKind.i64.wrap (b - r) = b - r := IntWalk.i64_in _ (by unfold M at *; omega)
  have e2 : IntKind.i64.wrap (q + 1) = q + 1 := IntWalk.i64_in _ (by unfold M at *; omega)
  refine G.seqR tfine rfl trivial ?_
  refine G.seq (G.seqR tfine rfl ?_ ?_)
  · simp [AllP, condB]
  refine G.cond rfl (fun h => ?_) (fun h => ?_)
  · refine G.seqR tfine rfl trivial ?_
    refine G.ret (endK.ret rfl ?_)
    rw [refUp, h]; rfl
  refine G.skip ?_
  refine G.seq (G.seqR tfine rfl ?_ ?_)
  · simp [AllP, condB]
  rw [e1]
  refine G.cond rfl (fun h2 => ?_) (fun h2 => ?_)
  · refine G.seqR tfine rfl trivial ?_
    refine G.ret (endK.ret rfl ?_)
    rw [refUp, h, h2, e2]; rfl
  refine G.skip ?_
  refine G.seq (G.seqR tfine rfl trivial ?_)
  rw [e1]
  refine G.cond rfl (fun h3 => ?_) (fun h3 => ?_)
  · refine G.seqR tfine rfl trivial ?_
    refine G.ret (endK.ret rfl ?_)
    rw [refUp, h, h2, h3]; rfl
  refine G.skip ?_
  refine G.seq (G.seqR tfine rfl ?_ ?_)
  · simp [AllP, condB]
  refine G.cond rfl (fun h4 => ?_) (fun h4 => ?_)
  · refine G.seqR tfine rfl trivial ?_
    refine G.ret (endK.ret rfl ?_)
    rw [refUp, h, h2, h3, e2]
    simp only [Bool.false_eq_true, if_false, h4, if_true]
  refine G.skip ?_
  refine G.seqR tfine rfl trivial ?_
  refine G.ret (endK.ret rfl ?_)
  rw [refUp, h, h2, h3]
  simp only [Bool.false_eq_true, if_false, h4]
end Go.Proofs.Ytiicemgngccicaa
