/- RoundingQuotients returns true for all arguments: the program's quotient and step are the reference's. -/
import Derived.Test.YtgpmoaolicpccaaI
set_option linter.unusedVariables false
set_option linter.unusedSimpArgs false
set_option maxRecDepth 8000
namespace Go.Proofs.Ytgpmoaolicpccaa
open Go.Sx Go.RowKit
theorem roundingQuotients_walk (a b rule : Int) (w : World) : Calls Try.prog 3 #[I a, I b, I rule] w fun e w' => e = .returned (.bool true) ∧ Below w.heap.size w w' := by
  refine enterPlain tfine Try.func3 rfl 72 Try.ntmps3 [.c (.k (I a)), .c (.k (I b)), .c (.k (I rule))] [] rfl rfl trivial ⟨trivial, trivial, trivial, trivial⟩ ?_
  refine G.seqR tfine rfl trivial ?_
  refine G.seq (G.seqC tfine rfl trivial ?_)
  refine GO.callPlain rfl rfl rfl rfl (fun args w => Try.call11 args w) (fun ρ w hm _ => awake_any w) ?_
  refine GO.fin tfine rfl trivial ?_
  refine G.cond_false rfl (G.skip ?_)
  refine G.seqC tfine rfl trivial ?_
  refine GO.callPlain rfl rfl rfl rfl (fun args w => Try.call12 args w) (fun ρ w hm _ => quotient_any a b rule w) ?_
  refine GO.fin tfine rfl trivial ?_
  refine G.seqC tfine rfl trivial ?_
  refine GO.callPlain rfl rfl rfl rfl (fun args w => Try.call13 args w) (fun ρ w hm _ => refQuotient_any a b rule w) ?_
  refine GO.fin tfine rfl trivial ?_
  refine G.seqC tfine rfl trivial ?_
  refine GO.callPlain rfl rfl rfl rfl (fun args w => Try.call14 args w) (fun ρ w hm _ => step_any a b rule w) ?_
  refine GO.fin tfine rfl trivial ?_
  refine G.seqC tfine rfl trivial ?_
  refine GO.callPlain rfl rfl rfl rfl (fun args w => Try.call15 args w) (fun ρ w hm _ => refStep_any a b rule w) ?_
  refine GO.fin tfine rfl trivial ?_
  refine G.seqR tfine rfl ?_ ?_
  · simp [AllP, condB]
  refine G.ret (endK.ret rfl (vb ?_))
  simp
end Go.Proofs.Ytgpmoaolicpccaa
