/- Chapter 02: the copy of a row. -/
import Derived.Test.YtbgbndiokckboaaE
import Derived.Test.YtbgbndiokckboaaSxO
set_option linter.unusedVariables false
set_option linter.unusedSimpArgs false
namespace Go.Proofs.Ytbgbndiokckboaa
open Go.Sx Go.RowKit
theorem info3 : (Try.prog.info? 3).map (fun i => (i.zero, i.size, i.bytes)) = some (some (.int .i64 0), 1, 8) := by kernel_rfl
theorem apT35 : ApT Try.prog 36 3 1 8 (.int .i64 0) := ⟨Try.underlying36, info3, rfl, by decide⟩
theorem clone_any (A : Option Addr) (c : Nat) (l : List Int) (w : World) (hl : RdRow w A l.length 1 (elI l)) (hm : l.length ≤ maxLen) (hy : l.length * 8 ≤ 140737488355328) (hA : A = none → l.length = 0) :
    Calls Try.prog 19 #[.slice A l.length c] w fun e w' => ∃ A' c', e = .returned (.slice A' l.length c') ∧ RdNew w w' A' l.length 1 (elI l) ∧ Below w.heap.size w w' := by
  refine enterRow tfine l.length 1 (elI l) Try.func19 rfl 8 Try.ntmps19 [.c (.inp 1000 A l.length c)] [⟨1000, A, 1, l.length, elI l⟩] rfl rfl ⟨hl, trivial⟩ ⟨.inl ⟨rfl, rfl, rfl⟩, trivial⟩ ?_
  refine G.seqR tfine rfl trivial ?_
  refine G.seq (G.seqR tfine rfl trivial ?_)
  refine G.cond rfl (fun h => ?_) (fun h => ?_)
  · refine G.seqR tfine rfl trivial ?_
    have : A = none := by cases A <;> simp at h ⊢
    refine G.ret (endRow.ret rfl ⟨(hA this).symm, hA this⟩)
  refine G.skip ?_
  refine G.seqC tfine rfl trivial ?_
  refine GO.emptySlice tfine rfl rfl rfl rfl rfl rfl rfl fun A0 => ?_
  refine GO.more tfine rfl trivial ?_
  refine GO.appendNew (elI l) apT35 rfl rfl rfl rfl rfl rfl rfl rfl (RowOf.ro rfl) (fun k hk => rfl) (fun i hi u hu => by simp [elI] at hu; subst hu; rfl) hm hy (fun h0 => ?_) fun h0 c' hc' => ?_
  · refine GO.fin tfine rfl trivial ?_
    exact G.ret (endRow.ret rfl ⟨h0.symm, h0⟩)
  · refine GO.fin tfine rfl trivial ?_
    exact G.ret (endRow.ret rfl ⟨rfl, rfl, rfl, by simp, fun i hi => by simp⟩)
end Go.Proofs.Ytbgbndiokckboaa
