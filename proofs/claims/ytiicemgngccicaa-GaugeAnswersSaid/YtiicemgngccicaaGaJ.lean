/- Chapter 15: the examples of the chapter hold. -/
import Derived.Test.YtiicemgngccicaaGaI
set_option linter.unusedVariables false
set_option linter.unusedSimpArgs false
set_option maxRecDepth 8000
set_option maxHeartbeats 1000000
namespace Go.Proofs.Ytiicemgngccicaa
open Go.Sx Go.RowKit
def r0 : Rep := ⟨0, 10, 200, 4000, 100, 102, 400000, 408000⟩
theorem awake_any (w : World) : Calls Try.prog 9 #[] w fun e w' => e = .returned (.bool true) ∧ Below w.heap.size w w' := by
  refine enterPlain tfine Try.func9 rfl 123 Try.ntmps9 [] [] rfl rfl trivial trivial ?_
  refine G.seqR tfine rfl trivial ?_
  refine G.seqC tfine rfl trivial ?_
  refine GO.callTab (n := 3) (sz := 2) (el := elM stepsL) [I 2] rfl rfl rfl rfl rfl rfl rfl (fun args w => Try.call31 args w) (fun ρ w hs hok => steps_any w) fun A c => ?_
  refine GO.callPlain (v := .tuple #[.agg #[I 100, I 252], I 0]) rfl rfl rfl rfl (fun args w => Try.call11 args w) (fun ρ w hs hok => wet_any A c stepsL 2 15 w (hs.row (cap := c) rfl (hok _ List.mem_cons_self _ List.mem_cons_self)) (by decide)) ?_
  refine GO.fin tfine rfl trivial ?_
  refine G.seqC tfine rfl trivial ?_
  refine GO.callTab (n := 3) (sz := 2) (el := elM stepsL) [I 2] rfl rfl rfl rfl rfl rfl rfl (fun args w => Try.call31 args w) (fun ρ w hs hok => steps_any w) fun A2 c2 => ?_
  refine GO.more tfine rfl trivial ?_
  refine GO.callPlain (v := .tuple #[.agg #[I 0, I 10, I 200, I 4000, I 100, I 102, I 400000, I 408000], I 0]) rfl rfl rfl rfl (fun args w => Try.call14 args w) (fun ρ w hs hok => gauge_Report_any A2 c2 stepsL 2 0 10 200 4000 110 w (hs.row (cap := c2) rfl (hok _ List.mem_cons_self _ List.mem_cons_self)) (by decide)) ?_
  refine GO.fin tfine rfl trivial ?_
  refine G.seqC tfine rfl trivial ?_
  refine GO.callPlain (v := .tuple #[.agg #[I 2000, I 10000], I 2, I 0]) rfl rfl rfl rfl (fun args w => Try.call19 args w) (fun ρ w hs hok => gauge_Differ_any 0 10 200 4000 100 102 400000 408000 410000 w) ?_
  refine GO.fin tfine rfl trivial ?_
  refine G.seqC tfine rfl trivial ?_
  refine GO.callPlain (v := .tuple #[.agg #[I 100, I 102], .agg #[I 400000, I 408000], I 0]) rfl rfl rfl rfl (fun args w => Try.call20 args w) (fun ρ w hs _ => together_any _ 2 [r0, r0] w ((hs.rdVar (sz := 8) (vs := r0.cs ++ r0.cs) rfl 0 2 (by decide)).congr fun i hi => ?_) (by decide)) ?_
  · have hi : i < 2 := hi
    rcases (show i = 0 ∨ i = 1 by omega) with rfl | rfl <;> rfl
  refine GO.fin tfine rfl trivial ?_
  refine G.seqC tfine rfl trivial ?_
  refine GO.callPlain (v := .tuple #[.agg #[I 200, I 204], .agg #[I 800000, I 816000], I 0]) rfl rfl rfl rfl (fun args w => Try.call23 args w) (fun ρ w hs _ => total_any _ 2 [r0, r0] w ((hs.rdVar (sz := 8) (vs := r0.cs ++ r0.cs) rfl 0 2 (by decide)).congr fun i hi => ?_) (by decide)) ?_
  · have hi : i < 2 := hi
    rcases (show i = 0 ∨ i = 1 by omega) with rfl | rfl <;> rfl
  refine GO.fin tfine rfl trivial ?_
  refine G.seqC tfine rfl ?_ ?_
  · simp [AllP, condB]
  refine GO.structEqG false [I 100, I 252] [I 100, I 252] true rfl cmp_api_Bounds rfl rfl rfl (by first | exact trivial | exact ⟨id, trivial⟩ | exact ⟨id, id, trivial⟩) rfl rfl rfl (by kernel_rfl) ?_
  refine GO.more tfine rfl ?_ ?_
  · simp [AllP, condB]
  refine GO.structEqG false [I 100, I 102] [I 100, I 102] true rfl cmp_api_Bounds rfl rfl rfl (by first | exact trivial | exact ⟨id, trivial⟩ | exact ⟨id, id, trivial⟩) rfl rfl rfl (by kernel_rfl) ?_
  refine GO.more tfine rfl ?_ ?_
  · simp [AllP, condB]
  refine GO.structEqG false [I 400000, I 408000] [I 400000, I 408000] true rfl cmp_api_Bounds rfl rfl rfl (by first | exact trivial | exact ⟨id, trivial⟩ | exact ⟨id, id, trivial⟩) rfl rfl rfl (by kernel_rfl) ?_
  refine GO.more tfine rfl ?_ ?_
  · simp [AllP, condB]
  refine GO.structEqG false [I 2000, I 10000] [I 2000, I 10000] true rfl cmp_api_Bounds rfl rfl rfl (by first | exact trivial | exact ⟨id, trivial⟩ | exact ⟨id, id, trivial⟩) rfl rfl rfl (by kernel_rfl) ?_
  refine GO.more tfine rfl ?_ ?_
  · simp [AllP, condB]
  refine GO.structEqG false [I 100, I 102] [I 100, I 102] true rfl cmp_api_Bounds rfl rfl rfl (by first | exact trivial | exact ⟨id, trivial⟩ | exact ⟨id, id, trivial⟩) rfl rfl rfl (by kernel_rfl) ?_
  refine GO.more tfine rfl ?_ ?_
  · simp [AllP, condB]
  refine GO.structEqG false [I 400000, I 408000] [I 400000, I 408000] true rfl cmp_api_Bounds rfl rfl rfl (by first | exact trivial | exact ⟨id, trivial⟩ | exact ⟨id, id, trivial⟩) rfl rfl rfl (by kernel_rfl) ?_
  refine GO.more tfine rfl ?_ ?_
  · simp [AllP, condB]
  refine GO.structEqG false [I 200, I 204] [I 200, I 204] true rfl cmp_api_Bounds rfl rfl rfl (by first | exact trivial | exact ⟨id, trivial⟩ | exact ⟨id, id, trivial⟩) rfl rfl rfl (by kernel_rfl) ?_
  refine GO.more tfine rfl ?_ ?_
  · simp [AllP, condB]
  refine GO.structEqG false [I 800000, I 816000] [I 800000, I 816000] true rfl cmp_api_Bounds rfl rfl rfl (by first | exact trivial | exact ⟨id, trivial⟩ | exact ⟨id, id, trivial⟩) rfl rfl rfl (by kernel_rfl) ?_
  refine GO.more tfine rfl ?_ ?_
  · simp [AllP, condB]
  refine GO.callGuard (.bool true) rfl rfl rfl (by first | exact trivial | exact ⟨id, trivial⟩ | exact ⟨id, id, trivial⟩) rfl rfl (fun args w => Try.call18 args w) rfl (fun _ m' hle ρ w hs hok => gauge_Right_any 0 10 200 4000 100 102 400000 408000 w) ?_
  refine GO.more tfine rfl ?_ ?_
  · simp [AllP, condB]
  refine GO.callGuard (I 0) rfl rfl rfl (by first | exact trivial | exact ⟨id, trivial⟩ | exact ⟨id, id, trivial⟩) rfl rfl (fun args w => Try.call16 args w) rfl (fun _ m' hle ρ w hs hok => gauge_Check_any 0 10 200 4000 w) ?_
  refine GO.fin tfine rfl ?_ ?_
  · simp [AllP, condB]
  refine G.ret (endK.ret rfl (vb ?_))
  simp
end Go.Proofs.Ytiicemgngccicaa
