/- LinearSolves: the statement of the law LinearSolves for every input, out of its walk. -/
import Derived.Test.YtafhnfcahhlanaaRows
import Derived.Test.YtafhnfcahhlanaaLB7
import Derived.WalkKit
import Derived.ProofKit
import Derived.OpenShut
import Derived.ShutString
import Derived.ChangeOld
import Derived.Below
import Derived.SizedLaws
set_option linter.unusedVariables false
namespace Go.Proofs.Ytafhnfcahhlanaa.linearSolves
open Go.ChangeShapes Go.WideShapes Go.ChangeAt Go.RowKit
open Go.ChangeMaps (open_string shut_string)
theorem own : ownKnob Try.prog.godebug = none := by kernel_rfl
theorem laidOut : laidOutB Try.prog = true := by kernel_rfl
set_option maxRecDepth 100000 in
set_option maxHeartbeats 4000000 in
theorem lifted (os : Os) (started : os.Started) (H : Type) (enc : TypeId × Value → H) :
    ReturnsInHanded {} Try.checked os 3 .any (Rows.linearSolvesSpec.pre6 enc Try.prog Try.f3 Rows.linearSolvesRow.domain false) (Rows.linearSolvesSpec.post enc Try.prog Try.f3 false true false false) := by
  refine returnsInHanded_of_change_sized (C := Try.checked) own started (by kernel_rfl) Try.func3
    (ChangeSpec.witness6 (enc := enc) (C := Try.checked) false ⟨#[], #[.agg #[.slice none 0 0, .slice none 0 0, .slice none 0 0]], []⟩ 8 (by kernel_rfl) (by kernel_rfl) (by kernel_rfl) (by kernel_rfl)) ?_
  intro W base args ds gs before hval0 hW hcnd hsz0 _
  have hval : ∀ (j : Nat) t v, Try.f3.params[j]? = some t → args[j]? = some v → Value.okWide Try.prog W .any base t v := hval0
  have hW' := hW
  obtain ⟨p, q, hA0, hV, rfl, hfz, hnd⟩ := hW
  have hA : DataW.TrodAll enc Try.prog W 0 (fun _ => true) true Try.f3.params.toList args.toList ds p := hA0
  rw [Try.params3] at hA hval
  obtain ⟨v0, vs0, d0, ds0, p0, q0, hargs, rfl, rfl, h0, r0⟩ := trodAll_cons hA
  obtain ⟨rfl, rfl, rfl⟩ := trodAll_nil r0
  obtain rfl : args = #[v0] := by cases args; simp_all
  obtain ⟨rfl, rfl⟩ := trodVars_none hV
  have k0 := h0
  have lt0 : ∀ x ∈ p0, x.block < W.heap.size := by obtain ⟨m, hm⟩ := k0; exact DataW.trod_lt m _ _ _ hm
  obtain ⟨cs0, rfl⟩ := Go.Sx.okWide_agg (hval 0 25 v0 rfl rfl) (by kernel_rfl)
  have e0 := Go.Sx.open_leaves h0 8 (ls := [.row 1 [.int .i64], .row 1 [.row 1 [.int .i64]], .row 1 [.int .i64]]) (by kernel_rfl) 4
  obtain ⟨r0_, hr0⟩ : ∃ r, r = (Value.agg cs0).cells.toList := ⟨_, rfl⟩
  rw [← hr0] at e0
  obtain ⟨c0_0, _, rfl, u0_0, e0⟩ := e0.cons
  obtain ⟨c0_1, _, rfl, u0_1, e0⟩ := e0.cons
  obtain ⟨c0_2, _, rfl, u0_2, e0⟩ := e0.cons
  obtain rfl := e0.nil
  obtain rfl : cs0 = #[c0_0, c0_1, c0_2] := Array.toList_inj.1 hr0.symm
  obtain ⟨a0_0, _, cap0_0, rfl, n0_0, m0_0, ess0_0, rfl, r_0_0, w0_0⟩ := u0_0
  obtain ⟨a0_1, _, cap0_1, rfl, n0_1, m0_1, ess0_1, rfl, r_0_1, w0_1⟩ := u0_1
  obtain ⟨a0_2, _, cap0_2, rfl, n0_2, m0_2, ess0_2, rfl, r_0_2, w0_2⟩ := u0_2
  clear hA0 hval0 hsz0
  refine (LinearSolves_row a0_0 cap0_0 ess0_0 a0_1 cap0_1 ess0_1 a0_2 cap0_2 ess0_2 W r_0_0 n0_0 m0_0 w0_0 r_0_1 n0_1 m0_1 w0_1 r_0_2 n0_2 m0_2 w0_2).mono fun e W' ⟨he, bel⟩ => ?_
  subst he
  exact ⟨_, rfl, _, _, _, [], _, [], hW', trodAll_mk1 (shut_bool Try.underlying4 _), (trodAll_cons_mk (Below.trod laidOut (by kernel_rfl) (of_decide_eq_true (by kernel_rfl)) k0 bel lt0) trodAll_mk0), rfl, bel.frame _, fun h => by cases h⟩
theorem over : Rows.linearSolvesRow.holds Try.pinned (OpenSpec.ofChange Rows.linearSolvesSpec) :=
  OpenClaim.holds_of_wide 3 Try.f3 rfl rfl rfl rfl rfl rfl rfl ⟨rfl, rfl, rfl, rfl, rfl⟩ rfl rfl rfl rfl rfl (by kernel_rfl) Try.func3 (by kernel_rfl)
    (of_decide_eq_true (by kernel_rfl)) (by unfold Func.isWrapper; first | (rw [if_pos (by decide +kernel)]; kernel_rfl) | (rw [if_neg (by decide +kernel)]; exact ⟨rfl, rfl⟩))
    (fun os started H enc _ => lifted os started H enc)
end Go.Proofs.Ytafhnfcahhlanaa.linearSolves
namespace Go.Proofs.Ytafhnfcahhlanaa
theorem linearSolves_holds : Rows.LinearSolvesSaid := linearSolves.over
#print axioms linearSolves_holds
end Go.Proofs.Ytafhnfcahhlanaa
