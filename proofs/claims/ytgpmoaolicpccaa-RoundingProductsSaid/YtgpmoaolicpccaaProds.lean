/- Chapter 02: the walk of RoundingProducts. -/
import Derived.Test.YtgpmoaolicpccaaX
set_option linter.unusedVariables false
set_option linter.unusedSimpArgs false
set_option maxRecDepth 8000
namespace Go.Proofs.Ytgpmoaolicpccaa
open Go.Sx Go.RowKit
theorem roundingProducts_walk (x0 x1 x2 rule : Int) (w : World) : Calls Try.prog 4 #[.agg #[I x0, I x1, I x2], I rule] w fun e w' => e = .returned (.bool true) ∧ Below w.heap.size w w' := by
  refine enterPlain tfine Try.func4 rfl 41 Try.ntmps4 [.agg [.k (I x0), .k (I x1), .k (I x2)], .c (.k (I rule))] [] rfl rfl trivial ⟨⟨trivial, trivial, trivial, trivial⟩, trivial, trivial⟩ ?_
  refine G.seqR tfine rfl trivial ?_
  refine G.seq (G.seqC tfine rfl trivial ?_)
  refine GO.callPlain rfl rfl rfl rfl (fun args w => Try.call11 args w) (fun ρ w hm _ => awake_any w) ?_
  refine GO.fin tfine rfl trivial ?_
  refine G.cond_false rfl (G.skip ?_)
  refine G.seqC tfine rfl ⟨by decide, by decide, by decide, by decide, by decide, by decide, by decide, by decide, by decide, trivial⟩ ?_
  refine GO.callPlain rfl rfl rfl rfl (fun args w => Try.call16 args w) (fun ρ w hm _ => rprod_any x0 x1 x2 rule w) ?_
  refine GO.fin tfine rfl trivial ?_
  refine G.seqC tfine rfl ⟨by decide, by decide, by decide, by decide, by decide, by decide, by decide, by decide, by decide, trivial⟩ ?_
  refine GO.callPlain rfl rfl rfl rfl (fun args w => Try.call17 args w) (fun ρ w hm _ => refProduct_any x0 x1 x2 rule w) ?_
  refine GO.fin tfine rfl trivial ?_
  refine G.seqR tfine rfl ?_ ?_
  · simp [AllP, condB]
  refine G.ret (endK.ret rfl ?_)
  simp
end Go.Proofs.Ytgpmoaolicpccaa
