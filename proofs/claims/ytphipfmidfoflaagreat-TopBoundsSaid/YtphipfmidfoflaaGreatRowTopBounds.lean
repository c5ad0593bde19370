/- TopBounds: the statement of the law TopBounds for every input, out of its walk. -/
import Derived.Test.YtphipfmidfoflaaGreatRows
import Derived.Test.YtphipfmidfoflaaGreatBB6
import Derived.WalkKit
import Derived.ProofKit
import Derived.OpenShut
import Derived.ShutString
import Derived.ChangeOld
import Derived.Below
import Derived.SizedLaws
set_option linter.unusedVariables false
namespace Go.Proofs.YtphipfmidfoflaaGreat.topBounds
open Go.ChangeShapes Go.WideShapes Go.ChangeAt Go.RowKit
open Go.ChangeMaps (open_string shut_string)
theorem own : ownKnob Tryz.prog.godebug = none := by kernel_rfl
theorem laidOut : laidOutB Tryz.prog = true := by kernel_rfl
set_option maxRecDepth 100000 in
set_option maxHeartbeats 4000000 in
theorem lifted (os : Os) (started : os.Started) (H : Type) (enc : TypeId × Value → H) :
    ReturnsInHanded {} Tryz.checked os 3 .any (Rows.topBoundsSpec.pre6 enc Tryz.prog Tryz.f3 Rows.topBoundsRow.domain false) (Rows.topBoundsSpec.post enc Tryz.prog Tryz.f3 false true false false) := by
  refine returnsInHanded_of_change_sized (C := Tryz.checked) own started (by kernel_rfl) Tryz.func3
    (ChangeSpec.witness6 (enc := enc) (C := Tryz.checked) false ⟨#[], #[.agg #[.string ByteArray.empty, .int .i64 0, .slice none 0 0, .int .i64 0], .int .i64 0, .int .i64 0, .int .i64 0, .int .i64 0], []⟩ 8 (by kernel_rfl) (by kernel_rfl) (by kernel_rfl) (by kernel_rfl)) ?_
  intro W base args ds gs before hval0 hW hcnd hsz0 _
  have hval : ∀ (j : Nat) t v, Tryz.f3.params[j]? = some t → args[j]? = some v → Value.okWide Tryz.prog W .any base t v := hval0
  have hW' := hW
  obtain ⟨p, q, hA0, hV, rfl, hfz, hnd⟩ := hW
  have hA : DataW.TrodAll enc Tryz.prog W 0 (fun _ => true) true Tryz.f3.params.toList args.toList ds p := hA0
  rw [Tryz.params3] at hA hval
  obtain ⟨v0, vs0, d0, ds0, p0, q0, hargs, rfl, rfl, h0, r0⟩ := trodAll_cons hA
  obtain ⟨v1, vs1, d1, ds1, p1, q1, rfl, rfl, rfl, h1, r1⟩ := trodAll_cons r0
  obtain ⟨v2, vs2, d2, ds2, p2, q2, rfl, rfl, rfl, h2, r2⟩ := trodAll_cons r1
  obtain ⟨v3, vs3, d3, ds3, p3, q3, rfl, rfl, rfl, h3, r3⟩ := trodAll_cons r2
  obtain ⟨v4, vs4, d4, ds4, p4, q4, rfl, rfl, rfl, h4, r4⟩ := trodAll_cons r3
  obtain ⟨rfl, rfl, rfl⟩ := trodAll_nil r4
  obtain rfl : args = #[v0, v1, v2, v3, v4] := by cases args; simp_all
  obtain ⟨rfl, rfl⟩ := trodVars_none hV
  have k0 := h0
  have lt0 : ∀ x ∈ p0, x.block < W.heap.size := by obtain ⟨m, hm⟩ := k0; exact DataW.trod_lt m _ _ _ hm
  obtain ⟨cs0, rfl⟩ := Go.Sx.okWide_agg (hval 0 24 v0 rfl rfl) (by kernel_rfl)
  have e0 := Go.Sx.open_leaves h0 8 (ls := [.str, .int .i64, .row 2 [.int .i64, .int .i64], .int .i64]) (by kernel_rfl) 4
  obtain ⟨r0_, hr0⟩ : ∃ r, r = (Value.agg cs0).cells.toList := ⟨_, rfl⟩
  rw [← hr0] at e0
  obtain ⟨c0_0, _, rfl, u0_0, e0⟩ := e0.cons
  obtain ⟨c0_1, _, rfl, u0_1, e0⟩ := e0.cons
  obtain ⟨c0_2, _, rfl, u0_2, e0⟩ := e0.cons
  obtain ⟨c0_3, _, rfl, u0_3, e0⟩ := e0.cons
  obtain rfl := e0.nil
  obtain rfl : cs0 = #[c0_0, c0_1, c0_2, c0_3] := Array.toList_inj.1 hr0.symm
  obtain ⟨a0_0, rfl, w0_0⟩ := u0_0
  obtain ⟨a0_1, rfl, w0_1⟩ := u0_1
  obtain ⟨a0_2, _, cap0_2, rfl, n0_2, m0_2, ess0_2, rfl, r_0_2, w0_2⟩ := u0_2
  obtain ⟨a0_3, rfl, w0_3⟩ := u0_3
  obtain ⟨a1, rfl, rfl, rfl, w1⟩ := open_int Tryz.underlying3 (hval 1 3 v1 rfl rfl) h1
  obtain ⟨a2, rfl, rfl, rfl, w2⟩ := open_int Tryz.underlying3 (hval 2 3 v2 rfl rfl) h2
  obtain ⟨a3, rfl, rfl, rfl, w3⟩ := open_int Tryz.underlying3 (hval 3 3 v3 rfl rfl) h3
  obtain ⟨a4, rfl, rfl, rfl, w4⟩ := open_int Tryz.underlying3 (hval 4 3 v4 rfl rfl) h4
  clear hA0 hval0 hsz0
  refine (TopBounds_row a0_0 a0_1 a0_2 cap0_2 ess0_2 a0_3 w0_0 w0_1 w0_3 a1 a2 a3 a4 W r_0_2 n0_2 m0_2 w0_2).mono fun e W' ⟨he, bel⟩ => ?_
  subst he
  exact ⟨_, rfl, _, _, _, [], _, [], hW', trodAll_mk1 (shut_bool Tryz.underlying4 _), (trodAll_cons_mk (Below.trod laidOut (by kernel_rfl) (of_decide_eq_true (by kernel_rfl)) k0 bel lt0) (trodAll_cons_mk (shut_int Tryz.underlying3 w1) (trodAll_cons_mk (shut_int Tryz.underlying3 w2) (trodAll_cons_mk (shut_int Tryz.underlying3 w3) (trodAll_cons_mk (shut_int Tryz.underlying3 w4) trodAll_mk0))))), rfl, bel.frame _, fun h => by cases h⟩
theorem over : Rows.topBoundsRow.holds Tryz.pinned (OpenSpec.ofChange Rows.topBoundsSpec) :=
  OpenClaim.holds_of_wide 3 Tryz.f3 rfl rfl rfl rfl rfl rfl rfl ⟨rfl, rfl, rfl, rfl, rfl⟩ rfl rfl rfl rfl rfl (by kernel_rfl) Tryz.func3 (by kernel_rfl)
    (of_decide_eq_true (by kernel_rfl)) (by unfold Func.isWrapper; first | (rw [if_pos (by decide +kernel)]; kernel_rfl) | (rw [if_neg (by decide +kernel)]; exact ⟨rfl, rfl⟩))
    (fun os started H enc _ => lifted os started H enc)
end Go.Proofs.YtphipfmidfoflaaGreat.topBounds
namespace Go.Proofs.YtphipfmidfoflaaGreat
theorem topBounds_holds : Rows.TopBoundsSaid := topBounds.over
#print axioms topBounds_holds
end Go.Proofs.YtphipfmidfoflaaGreat
