/- GapFewest: the statement of the law GapFewest for every input, out of its walk. -/
import Derived.Test.YtpoalimbjeehkaaRows
import Derived.Test.YtpoalimbjeehkaaGB5
import Derived.WalkKit
import Derived.ProofKit
import Derived.OpenShut
import Derived.ShutString
import Derived.ChangeOld
import Derived.Below
import Derived.SizedLaws
set_option linter.unusedVariables false
namespace Go.Proofs.Ytpoalimbjeehkaa.gapFewest
open Go.ChangeShapes Go.WideShapes Go.ChangeAt Go.RowKit
open Go.ChangeMaps (open_string shut_string)
theorem own : ownKnob Try.prog.godebug = none := by kernel_rfl
theorem laidOut : laidOutB Try.prog = true := by kernel_rfl
set_option maxRecDepth 100000 in
set_option maxHeartbeats 4000000 in
theorem lifted (os : Os) (started : os.Started) (H : Type) (enc : TypeId × Value → H) :
    ReturnsInHanded {} Try.checked os 8 .any (Rows.gapFewestSpec.pre6 enc Try.prog Try.f8 Rows.gapFewestRow.domain false) (Rows.gapFewestSpec.post enc Try.prog Try.f8 false true false false) := by
  refine returnsInHanded_of_change_sized (C := Try.checked) own started (by kernel_rfl) Try.func8
    (ChangeSpec.witness6 (enc := enc) (C := Try.checked) false ⟨#[], #[.slice none 0 0, .agg #[.int .i64 0, .int .i64 0]], []⟩ 8 (by kernel_rfl) (by kernel_rfl) (by kernel_rfl) (by kernel_rfl)) ?_
  intro W base args ds gs before hval0 hW hcnd hsz0 _
  have hval : ∀ (j : Nat) t v, Try.f8.params[j]? = some t → args[j]? = some v → Value.okWide Try.prog W .any base t v := hval0
  have hW' := hW
  obtain ⟨p, q, hA0, hV, rfl, hfz, hnd⟩ := hW
  have hA : DataW.TrodAll enc Try.prog W 0 (fun _ => true) true Try.f8.params.toList args.toList ds p := hA0
  rw [Try.params8] at hA hval
  obtain ⟨v0, vs0, d0, ds0, p0, q0, hargs, rfl, rfl, h0, r0⟩ := trodAll_cons hA
  obtain ⟨v1, vs1, d1, ds1, p1, q1, rfl, rfl, rfl, h1, r1⟩ := trodAll_cons r0
  obtain ⟨rfl, rfl, rfl⟩ := trodAll_nil r1
  obtain rfl : args = #[v0, v1] := by cases args; simp_all
  obtain ⟨rfl, rfl⟩ := trodVars_none hV
  have k0 := h0
  have lt0 : ∀ x ∈ p0, x.block < W.heap.size := by obtain ⟨m, hm⟩ := k0; exact DataW.trod_lt m _ _ _ hm
  obtain ⟨aa0, ll0, cc0, rfl⟩ := okWide_slice Try.underlying22 (hval 0 22 v0 rfl rfl)
  have e0 := Go.Sx.open_leaves h0 8 (ls := [.row 2 [.int .i64, .int .i64]]) (by kernel_rfl) 4
  obtain ⟨r0_, hr0⟩ : ∃ r, r = (Value.slice aa0 ll0 cc0).cells.toList := ⟨_, rfl⟩
  rw [← hr0] at e0
  obtain ⟨c0_0, _, rfl, u0_0, e0⟩ := e0.cons
  obtain rfl := e0.nil
  obtain ⟨a0_0, _, cap0_0, rfl, n0_0, m0_0, ess0_0, rfl, r_0_0, w0_0⟩ := u0_0
  have hr0 : [Value.slice a0_0 ess0_0.length cap0_0] = [Value.slice aa0 ll0 cc0] := hr0
  injection hr0 with hr0 _
  injection hr0 with x1 x2 x3
  subst x1
  subst x2
  subst x3
  obtain ⟨a1_0, a1_1, rfl, rfl, rfl, w1_0, w1_1⟩ := Go.Sx.open_arr2 (q := .i64) ⟨Try.underlying23, by kernel_rfl, by kernel_rfl, by kernel_rfl⟩ (by kernel_rfl) (hval 1 23 v1 rfl rfl) h1
  clear hA0 hval0 hsz0
  refine (GapFewest_row a0_0 cap0_0 ess0_0 a1_0 a1_1 W r_0_0 n0_0 m0_0 w0_0).mono fun e W' ⟨he, bel⟩ => ?_
  subst he
  exact ⟨_, rfl, _, _, _, [], _, [], hW', trodAll_mk1 (shut_bool Try.underlying4 _), (trodAll_cons_mk (Below.trod laidOut (by kernel_rfl) (of_decide_eq_true (by kernel_rfl)) k0 bel lt0) (trodAll_cons_mk (Go.Sx.shut_arr2 (q := .i64) ⟨Try.underlying23, by kernel_rfl, by kernel_rfl, by kernel_rfl⟩ (by kernel_rfl) w1_0 w1_1) trodAll_mk0)), rfl, bel.frame _, fun h => by cases h⟩
theorem over : Rows.gapFewestRow.holds Try.pinned (OpenSpec.ofChange Rows.gapFewestSpec) :=
  OpenClaim.holds_of_wide 8 Try.f8 rfl rfl rfl rfl rfl rfl rfl ⟨rfl, rfl, rfl, rfl, rfl⟩ rfl rfl rfl rfl rfl (by kernel_rfl) Try.func8 (by kernel_rfl)
    (of_decide_eq_true (by kernel_rfl)) (by unfold Func.isWrapper; first | (rw [if_pos (by decide +kernel)]; kernel_rfl) | (rw [if_neg (by decide +kernel)]; exact ⟨rfl, rfl⟩))
    (fun os started H enc _ => lifted os started H enc)
end Go.Proofs.Ytpoalimbjeehkaa.gapFewest
namespace Go.Proofs.Ytpoalimbjeehkaa
theorem gapFewest_holds : Rows.GapFewestSaid := gapFewest.over
#print axioms gapFewest_holds
end Go.Proofs.Ytpoalimbjeehkaa
