/- RoundingWords returns true for all arguments. -/
import Derived.Test.YtgpmoaolicpccaaL
set_option linter.unusedVariables false
set_option linter.unusedSimpArgs false
set_option maxRecDepth 8000
namespace Go.Proofs.Ytgpmoaolicpccaa
open Go.Sx Go.RowKit
theorem roundingWords_walk (rule : Int) (s : ByteArray) (A : Option Addr) (c : Nat) (l : List Int) (b : Int) (w : World) (hl : RdRow w A l.length 1 (elI l)) (hA : A = none → l.length = 0) :
    Calls Try.prog 9 #[I rule, .string s, .slice A l.length c, I b] w fun e w' => e = .returned (.bool true) ∧ Below w.heap.size w w' := by
  refine enterPlain tfine Try.func9 rfl 69 Try.ntmps9 [.c (.k (I rule)), .c (.k (.string s)), .c (.inp 1000 A l.length c), .c (.k (I b))] [⟨1000, A, 1, l.length, elI l⟩] rfl rfl ⟨hl, trivial⟩ ⟨trivial, trivial, .inl ⟨rfl, rfl, rfl⟩, trivial, trivial⟩ ?_
  refine G.seqR tfine rfl trivial ?_
  refine G.seq (G.seqC tfine rfl trivial ?_)
  refine GO.callPlain rfl rfl rfl rfl (fun args w => Try.call11 args w) (fun ρ w hm _ => awake_any w) ?_
  refine GO.fin tfine rfl trivial ?_
  refine G.cond_false rfl (G.skip ?_)
  refine G.seq (G.seqR tfine rfl ?_ ?_)
  · simp [AllP, condB]
  refine G.cond rfl (fun h => ?_) (fun h => ?_)
  · refine G.seqR tfine rfl trivial ?_
    exact G.ret (endK.ret rfl rfl)
  refine G.skip ?_
  have hlen : l.length ≤ 65 := by simp at h; omega
  refine G.seqC tfine rfl trivial ?_
  refine GO.callRow rfl rfl rfl rfl rfl rfl rfl (fun args w => Try.call20 args w) (fun ρ w hs hok => clone_any A c l w (hs.row rfl (hok _ List.mem_cons_self)) (by unfold maxLen; omega) (by omega) hA) fun A2 c2 => ?_
  refine GO.more tfine rfl trivial ?_
  refine GO.callPlain rfl rfl rfl rfl (fun args w => Try.call19 args w) (fun ρ w hs hok => total_any A2 c2 l b rule w (hs.row rfl (hok _ List.mem_cons_self)) (by omega)) ?_
  refine GO.fin tfine rfl trivial ?_
  refine G.seqC tfine rfl trivial ?_
  refine GO.callPlain rfl rfl rfl rfl (fun args w => Try.call21 args w) (fun ρ w hs hok => refTotal_any A c l b rule w (hs.row rfl (hok _ List.mem_cons_self))) ?_
  refine GO.fin tfine rfl trivial ?_
  refine G.seqC tfine rfl trivial ?_
  refine GO.callPlain rfl rfl rfl rfl (fun args w => Try.call22 args w) (fun ρ w hs hok => word_any rule w) ?_
  refine GO.more tfine rfl trivial ?_
  refine GO.callPlain rfl rfl rfl rfl (fun args w => Try.call23 args w) (fun ρ w hs hok => refWord_any rule w) ?_
  refine GO.more tfine rfl ?_ ?_
  · simp [AllP, condB]
  refine GO.callGuard (I (ruleS s)) rfl rfl rfl ⟨id, trivial⟩ rfl rfl (fun args w => Try.call24 args w) rfl (fun _ m' hle ρ w hs hok => rule_any s w) ?_
  refine GO.more tfine rfl ?_ ?_
  · simp [AllP, condB]
  refine GO.callGuard (I (ruleS s)) rfl rfl rfl ⟨id, trivial⟩ rfl rfl (fun args w => Try.call25 args w) rfl (fun _ m' hle ρ w hs hok => refRule_any s w) ?_
  refine GO.fin tfine rfl ?_ ?_
  · simp [AllP, condB]
  refine G.ret (endK.ret rfl (vb ?_))
  simp
end Go.Proofs.Ytgpmoaolicpccaa
