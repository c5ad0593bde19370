/- LinearRules: the statement of the law LinearRules for every input, out of its walk. -/
import Derived.Test.YtafhnfcahhlanaaRows
import Derived.Test.YtafhnfcahhlanaaLB6
import Derived.WalkKit
import Derived.ProofKit
import Derived.OpenShut
import Derived.ShutString
import Derived.ChangeOld
import Derived.Below
import Derived.SizedLaws
set_option linter.unusedVariables false
namespace Go.Proofs.Ytafhnfcahhlanaa.linearRules
open Go.ChangeShapes Go.WideShapes Go.ChangeAt Go.RowKit
open Go.ChangeMaps (open_string shut_string)
theorem own : ownKnob Try.prog.godebug = none := by kernel_rfl
theorem laidOut : laidOutB Try.prog = true := by kernel_rfl
set_option maxRecDepth 100000 in
set_option maxHeartbeats 4000000 in
theorem lifted (os : Os) (started : os.Started) (H : Type) (enc : TypeId × Value → H) :
    ReturnsInHanded {} Try.checked os 7 .any (Rows.linearRulesSpec.pre6 enc Try.prog Try.f7 Rows.linearRulesRow.domain false) (Rows.linearRulesSpec.post enc Try.prog Try.f7 false true false false) := by
  refine returnsInHanded_of_change_sized (C := Try.checked) own started (by kernel_rfl) Try.func7
    (ChangeSpec.witness6 (enc := enc) (C := Try.checked) false ⟨#[], #[.agg #[.slice none 0 0, .slice none 0 0, .slice none 0 0], .slice none 0 0, .int .i64 0], []⟩ 8 (by kernel_rfl) (by kernel_rfl) (by kernel_rfl) (by kernel_rfl)) ?_
  intro W base args ds gs before hval0 hW hcnd hsz0 _
  have hval : ∀ (j : Nat) t v, Try.f7.params[j]? = some t → args[j]? = some v → Value.okWide Try.prog W .any base t v := hval0
  have hW' := hW
  obtain ⟨p, q, hA0, hV, rfl, hfz, hnd⟩ := hW
  have hA : DataW.TrodAll enc Try.prog W 0 (fun _ => true) true Try.f7.params.toList args.toList ds p := hA0
  rw [Try.params7] at hA hval
  obtain ⟨v0, vs0, d0, ds0, p0, q0, hargs, rfl, rfl, h0, r0⟩ := trodAll_cons hA
  obtain ⟨v1, vs1, d1, ds1, p1, q1, rfl, rfl, rfl, h1, r1⟩ := trodAll_cons r0
  obtain ⟨v2, vs2, d2, ds2, p2, q2, rfl, rfl, rfl, h2, r2⟩ := trodAll_cons r1
  obtain ⟨rfl, rfl, rfl⟩ := trodAll_nil r2
  obtain rfl : args = #[v0, v1, v2] := by cases args; simp_all
  obtain ⟨rfl, rfl⟩ := trodVars_none hV
  have k0 := h0
  have lt0 : ∀ x ∈ p0, x.block < W.heap.size := by obtain ⟨m, hm⟩ := k0; exact DataW.trod_lt m _ _ _ hm
  obtain ⟨cs0, rfl⟩ := Go.Sx.okWide_agg (hval 0 25 v0 rfl rfl) (by kernel_rfl)
  have e0 := Go.Sx.open_leaves h0 8 (ls := [.row 1 [.int .i64], .row 1 [.row 1 [.int .i64]], .row 1 [.int .i64]]) (by kernel_rfl) 4
  obtain ⟨r0_, hr0⟩ : ∃ r, r = (Value.agg cs0).cells.toList := ⟨_, rfl⟩
  rw [← hr0] at e0
  obtain ⟨c0_0, _, rfl, u0_0, e0⟩ := e0.cons
  obtain ⟨c0_1, _, rfl, u0_1, e0⟩ := e0.cons
  obtain ⟨c0_2, _, rfl, u0_2, e0⟩ := e0.cons
  obtain rfl := e0.nil
  obtain rfl : cs0 = #[c0_0, c0_1, c0_2] := Array.toList_inj.1 hr0.symm
  obtain ⟨a0_0, _, cap0_0, rfl, n0_0, m0_0, ess0_0, rfl, r_0_0, w0_0⟩ := u0_0
  obtain ⟨a0_1, _, cap0_1, rfl, n0_1, m0_1, ess0_1, rfl, r_0_1, w0_1⟩ := u0_1
  obtain ⟨a0_2, _, cap0_2, rfl, n0_2, m0_2, ess0_2, rfl, r_0_2, w0_2⟩ := u0_2
  have k1 := h1
  have lt1 : ∀ x ∈ p1, x.block < W.heap.size := by obtain ⟨m, hm⟩ := k1; exact DataW.trod_lt m _ _ _ hm
  obtain ⟨aa1, ll1, cc1, rfl⟩ := okWide_slice Try.underlying22 (hval 1 22 v1 rfl rfl)
  have e1 := Go.Sx.open_leaves h1 8 (ls := [.row 1 [.int .i64]]) (by kernel_rfl) 4
  obtain ⟨r1_, hr1⟩ : ∃ r, r = (Value.slice aa1 ll1 cc1).cells.toList := ⟨_, rfl⟩
  rw [← hr1] at e1
  obtain ⟨c1_0, _, rfl, u1_0, e1⟩ := e1.cons
  obtain rfl := e1.nil
  obtain ⟨a1_0, _, cap1_0, rfl, n1_0, m1_0, ess1_0, rfl, r_1_0, w1_0⟩ := u1_0
  have hr1 : [Value.slice a1_0 ess1_0.length cap1_0] = [Value.slice aa1 ll1 cc1] := hr1
  injection hr1 with hr1 _
  injection hr1 with x1 x2 x3
  subst x1
  subst x2
  subst x3
  obtain ⟨a2, rfl, rfl, rfl, w2⟩ := open_int Try.underlying3 (hval 2 3 v2 rfl rfl) h2
  clear hA0 hval0 hsz0
  refine (LinearRules_row a0_0 cap0_0 ess0_0 a0_1 cap0_1 ess0_1 a0_2 cap0_2 ess0_2 a1_0 cap1_0 ess1_0 a2 W r_0_0 n0_0 m0_0 w0_0 r_0_1 n0_1 m0_1 w0_1 r_0_2 n0_2 m0_2 w0_2 r_1_0 n1_0 m1_0 w1_0).mono fun e W' ⟨he, bel⟩ => ?_
  subst he
  exact ⟨_, rfl, _, _, _, [], _, [], hW', trodAll_mk1 (shut_bool Try.underlying4 _), (trodAll_cons_mk (Below.trod laidOut (by kernel_rfl) (of_decide_eq_true (by kernel_rfl)) k0 bel lt0) (trodAll_cons_mk (Below.trod laidOut (by kernel_rfl) (of_decide_eq_true (by kernel_rfl)) k1 bel lt1) (trodAll_cons_mk (shut_int Try.underlying3 w2) trodAll_mk0))), rfl, bel.frame _, fun h => by cases h⟩
theorem over : Rows.linearRulesRow.holds Try.pinned (OpenSpec.ofChange Rows.linearRulesSpec) :=
  OpenClaim.holds_of_wide 7 Try.f7 rfl rfl rfl rfl rfl rfl rfl ⟨rfl, rfl, rfl, rfl, rfl⟩ rfl rfl rfl rfl rfl (by kernel_rfl) Try.func7 (by kernel_rfl)
    (of_decide_eq_true (by kernel_rfl)) (by unfold Func.isWrapper; first | (rw [if_pos (by decide +kernel)]; kernel_rfl) | (rw [if_neg (by decide +kernel)]; exact ⟨rfl, rfl⟩))
    (fun os started H enc _ => lifted os started H enc)
end Go.Proofs.Ytafhnfcahhlanaa.linearRules
namespace Go.Proofs.Ytafhnfcahhlanaa
theorem linearRules_holds : Rows.LinearRulesSaid := linearRules.over
#print axioms linearRules_holds
end Go.Proofs.Ytafhnfcahhlanaa
