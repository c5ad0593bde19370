/- Chapter 05: the walk of ThermalBounds. -/
import Derived.Test.YtbgbndiokckboaaThLaws
set_option linter.unusedVariables false
set_option linter.unusedSimpArgs false
set_option maxRecDepth 8000
set_option maxHeartbeats 1000000
namespace Go.Proofs.Ytbgbndiokckboaa
open Go.Sx Go.RowKit
theorem refBetween_any (a b s t r : Int) (w : World) : Calls Try.prog 17 #[.agg #[I a, I b], .agg #[I s, I t], I r] w fun e w' => e = .returned (.tuple #[.agg #[I (btw3 a b s t r).1, I (btw3 a b s t r).2.1], I (btw3 a b s t r).2.2]) ∧ Below w.heap.size w w' := by
  have := spileref05_Between_any a b s t r w
  rwa [btw_eq] at this
theorem thermalBounds_walk (a b s t r : Int) (A : Option Addr) (c : Nat) (l : List Int) (k : Int) (w : World) (hl : RdRow w A l.length 1 (elI l)) (hA : A = none → l.length = 0) :
    Calls Try.prog 7 #[.agg #[I a, I b], .agg #[I s, I t], I r, .slice A l.length c, I k] w fun e w' => e = .returned (.bool true) ∧ Below w.heap.size w w' := by
  refine enterPlain tfine Try.func7 rfl 69 Try.ntmps7 [.agg [.k (I a), .k (I b)], .agg [.k (I s), .k (I t)], .c (.k (I r)), .c (.inp 1000 A l.length c), .c (.k (I k))] [⟨1000, A, 1, l.length, elI l⟩] rfl rfl ⟨hl, trivial⟩ ⟨⟨trivial, trivial, trivial⟩, ⟨trivial, trivial, trivial⟩, trivial, .inl ⟨rfl, rfl, rfl⟩, trivial, trivial⟩ ?_
  refine G.seqR tfine rfl trivial ?_
  refine G.seq (G.seqC tfine rfl trivial ?_)
  refine GO.callPlain rfl rfl rfl rfl (fun args w => Try.call9 args w) (fun ρ w hm _ => awake_any w) ?_
  refine GO.fin tfine rfl trivial ?_
  refine G.cond_false rfl (G.skip ?_)
  refine G.seq (G.seqR tfine rfl trivial ?_)
  refine G.cond rfl (fun h => ?_) (fun h => ?_)
  · refine G.seqR tfine rfl trivial ?_
    exact G.ret (endK.ret rfl rfl)
  have h := of_decide_eq_false h
  refine G.skip ?_
  refine G.seqC tfine rfl trivial ?_
  refine GO.callPlain rfl rfl rfl rfl (fun args w => Try.call16 args w) (fun ρ w hm _ => between_any a b s t r w) ?_
  refine GO.fin tfine rfl trivial ?_
  refine G.seqC tfine rfl trivial ?_
  refine GO.callPlain rfl rfl rfl rfl (fun args w => Try.call17 args w) (fun ρ w hm _ => refBetween_any a b s t r w) ?_
  refine GO.fin tfine rfl trivial ?_
  refine G.seqC tfine rfl trivial ?_
  refine GO.callRow (n := l.length) (sz := 1) (el := elI l) rfl rfl rfl rfl rfl rfl rfl (fun args w => Try.call19 args w) (fun ρ w hs hok => clone_any A c l w (hs.row rfl (hok _ List.mem_cons_self)) (by unfold maxLen; omega) (by omega) hA) fun A' c' => ?_
  refine GO.more tfine rfl trivial ?_
  refine GO.callPlain rfl rfl rfl rfl (fun args w => Try.call18 args w) (fun ρ w hs hok => mean_any A' c' l k w (hs.row rfl (hok _ List.mem_cons_self)) (by omega)) ?_
  refine GO.fin tfine rfl trivial ?_
  refine G.seqC tfine rfl trivial ?_
  refine GO.callPlain rfl rfl rfl rfl (fun args w => Try.call20 args w) (fun ρ w hs hok => refMean_any A c l k w (hs.row rfl (hok _ List.mem_cons_self)) (by omega)) ?_
  refine GO.fin tfine rfl trivial ?_
  refine G.seqC tfine rfl trivial ?_
  refine GO.structEq false [I (btw3 a b s t r).1, I (btw3 a b s t r).2.1] [I (btw3 a b s t r).1, I (btw3 a b s t r).2.1] true ?_ cmp_api_Bounds rfl rfl rfl rfl rfl (by kernel_rfl) ?_
  · simp [eqR, eqL, eqV, I]
  refine GO.fin tfine rfl ?_ ?_
  · simp [AllP, condB]
  refine G.ret (endK.ret rfl ?_)
  simp
end Go.Proofs.Ytbgbndiokckboaa
