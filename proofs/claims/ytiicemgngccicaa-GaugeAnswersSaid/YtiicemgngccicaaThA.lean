/- Chapter 05: the factor, and what is corrected. -/
import Derived.Test.YtiicemgngccicaaX
import Derived.Test.YtiicemgngccicaaK
import Derived.Test.YtiicemgngccicaaSxQ
set_option linter.unusedVariables false
set_option linter.unusedSimpArgs false
set_option maxRecDepth 8000
namespace Go.Proofs.Ytiicemgngccicaa
open Go.Sx Go.RowKit
theorem thRule_any (r : Int) (w : World) : Calls Try.prog 75 #[I r] w fun e w' => e = .returned (.bool (isB r)) ∧ Below w.heap.size w w' := by
  refine enterPlain tfine Try.func75 rfl 6 Try.ntmps75 [.c (.k (I r))] [] rfl rfl trivial ⟨trivial, trivial⟩ ?_
  refine G.seqR tfine rfl trivial ?_
  refine G.seqC tfine rfl trivial ?_
  refine GO.callPlain rfl rfl rfl rfl (fun args w => Try.call85 args w) (fun ρ w hm _ => word_any r w) ?_
  refine GO.fin tfine rfl trivial ?_
  refine G.ret (endK.ret rfl ?_)
  cases h : isB r with
  | false => rw [wordS, h, ByteArray.toList_eq, ByteArray.toList_eq]; rfl
  | true =>
    have hk := isB_true h
    rw [wordS, h, ByteArray.toList_eq, ByteArray.toList_eq]
    rcases (show r = 1 ∨ r = 2 ∨ r = 3 ∨ r = 4 by omega) with rfl | rfl | rfl | rfl <;> rfl
def thermal_rises (x0 : Int) : Bool := ((decide (x0 ≥ (0 : Int))) && (decide (x0 ≤ (10000 : Int))))
theorem thermal_rises_any (x0 : Int) (w : World) : Calls Try.prog 56 #[I x0] w fun e w' => e = .returned (.bool (thermal_rises x0)) ∧ Below w.heap.size w w' := by
  refine enterPlain tfine Try.func56 rfl 9 Try.ntmps56 [.c (.k (I x0))] [] rfl rfl trivial ⟨trivial, trivial⟩ ?_
  refine G.seqR tfine rfl ?_ ?_
  · first | trivial | (simp [AllP, condB]; done) | (simp only [AllP]; and_intros <;> first | trivial | decide | omega) | (simp [AllP, condB]; intros; and_intros <;> first | assumption | omega)
  refine G.seqR tfine rfl ?_ ?_
  · first | trivial | (simp [AllP, condB]; done) | (simp only [AllP]; and_intros <;> first | trivial | decide | omega) | (simp [AllP, condB]; intros; and_intros <;> first | assumption | omega)
  refine G.ret (endK.ret rfl ?_)
  first | (rw [thermal_rises]; done) | (rw [thermal_rises]; rfl)
def thermal_heat (x0 : Int) : Bool := ((decide (x0 ≥ (-400 : Int))) && (decide (x0 ≤ (600 : Int))))
theorem thermal_heat_any (x0 : Int) (w : World) : Calls Try.prog 57 #[I x0] w fun e w' => e = .returned (.bool (thermal_heat x0)) ∧ Below w.heap.size w w' := by
  refine enterPlain tfine Try.func57 rfl 9 Try.ntmps57 [.c (.k (I x0))] [] rfl rfl trivial ⟨trivial, trivial⟩ ?_
  refine G.seqR tfine rfl ?_ ?_
  · first | trivial | (simp [AllP, condB]; done) | (simp only [AllP]; and_intros <;> first | trivial | decide | omega) | (simp [AllP, condB]; intros; and_intros <;> first | assumption | omega)
  refine G.seqR tfine rfl ?_ ?_
  · first | trivial | (simp [AllP, condB]; done) | (simp only [AllP]; and_intros <;> first | trivial | decide | omega) | (simp [AllP, condB]; intros; and_intros <;> first | assumption | omega)
  refine G.ret (endK.ret rfl ?_)
  first | (rw [thermal_heat]; done) | (rw [thermal_heat]; rfl)
def thermal_Factor (x0 : Int) (x1 : Int) : Int × Int := if ((!(thermal_rises x0)) || (!(thermal_heat x1))) = true then ((0 : Int), (2 : Int)) else (IntKind.i64.wrap ((10000000 : Int) + (IntKind.i64.wrap (x0 * (IntKind.i64.wrap (x1 - (200 : Int)))))), (0 : Int))
theorem thermal_Factor_any (x0 : Int) (x1 : Int) (w : World) : Calls Try.prog 76 #[I x0, I x1] w fun e w' => e = .returned (.tuple #[I ((thermal_Factor x0 x1).1), I ((thermal_Factor x0 x1).2)]) ∧ Below w.heap.size w w' := by
  refine enterPlain tfine Try.func76 rfl 19 Try.ntmps76 [.c (.k (I x0)), .c (.k (I x1))] [] rfl rfl trivial ⟨trivial, trivial, trivial⟩ ?_
  refine G.seqR tfine rfl ?_ ?_
  · first | trivial | (simp [AllP, condB]; done) | (simp only [AllP]; and_intros <;> first | trivial | decide | omega) | (simp [AllP, condB]; intros; and_intros <;> first | assumption | omega)
  refine G.seq ?_
  refine G.seqC tfine rfl ?_ ?_
  · first | trivial | (simp [AllP, condB]; done) | (simp only [AllP]; and_intros <;> first | trivial | decide | omega) | (simp [AllP, condB]; intros; and_intros <;> first | assumption | omega)
  refine GO.callPlain (v := .bool (thermal_rises x0))  rfl rfl rfl rfl (fun args w => Try.call56 args w) (fun ρ w hm _ => thermal_rises_any _ w) ?_
  refine GO.more tfine rfl ?_ ?_
  · first | trivial | (simp [AllP, condB]; done) | (simp only [AllP]; and_intros <;> first | trivial | decide | omega) | (simp [AllP, condB]; intros; and_intros <;> first | assumption | omega)
  refine GO.callGuard (.bool (thermal_heat x1)) rfl rfl rfl (by first | exact trivial | exact ⟨id, trivial⟩ | exact ⟨id, id, trivial⟩ | exact ⟨id, id, id, trivial⟩ | exact ⟨id, id, id, id, trivial⟩) rfl rfl (fun args w => Try.call57 args w) rfl (fun _ m' hle ρ w hs hok => thermal_heat_any _ w) ?_
  refine GO.fin tfine rfl ?_ ?_
  · first | trivial | (simp [AllP, condB]; done) | (simp only [AllP]; and_intros <;> first | trivial | decide | omega) | (simp [AllP, condB]; intros; and_intros <;> first | assumption | omega)
  refine G.cond rfl (fun h1 => ?_) (fun h1 => ?_)
  · refine G.seqR tfine rfl ?_ ?_
    · first | trivial | (simp [AllP, condB]; done) | (simp only [AllP]; and_intros <;> first | trivial | decide | omega) | (simp [AllP, condB]; intros; and_intros <;> first | assumption | omega)
    refine G.ret (endK.ret rfl ?_)
    first | (rw [thermal_Factor, h1]; done) | (rw [thermal_Factor, h1]; rfl)
  refine G.skip ?_
  refine G.seqR tfine rfl ?_ ?_
  · first | trivial | (simp [AllP, condB]; done) | (simp only [AllP]; and_intros <;> first | trivial | decide | omega) | (simp [AllP, condB]; intros; and_intros <;> first | assumption | omega)
  refine G.ret (endK.ret rfl ?_)
  first | (rw [thermal_Factor, h1]; done) | (rw [thermal_Factor, h1]; rfl)
def thermal_amount (x0 : Int) : Bool := (((of3 x0 (0 : Int) (1 : Int)).2.2) == (0 : Int))
theorem thermal_amount_any (x0 : Int) (w : World) : Calls Try.prog 58 #[I x0] w fun e w' => e = .returned (.bool (thermal_amount x0)) ∧ Below w.heap.size w w' := by
  refine enterPlain tfine Try.func58 rfl 14 Try.ntmps58 [.c (.k (I x0))] [] rfl rfl trivial ⟨trivial, trivial⟩ ?_
  refine G.seqR tfine rfl ?_ ?_
  · first | trivial | (simp [AllP, condB]; done) | (simp only [AllP]; and_intros <;> first | trivial | decide | omega) | (simp [AllP, condB]; intros; and_intros <;> first | assumption | omega)
  refine G.seqC tfine rfl ?_ ?_
  · first | trivial | (simp [AllP, condB]; done) | (simp only [AllP]; and_intros <;> first | trivial | decide | omega) | (simp [AllP, condB]; intros; and_intros <;> first | assumption | omega)
  refine GO.callPlain (v := .tuple #[I ((of3 x0 (0 : Int) (1 : Int)).1), I ((of3 x0 (0 : Int) (1 : Int)).2.1), I ((of3 x0 (0 : Int) (1 : Int)).2.2)])  rfl rfl rfl rfl (fun args w => Try.call68 args w) (fun ρ w hm _ => of_any _ _ _ w) ?_
  refine GO.fin tfine rfl ?_ ?_
  · first | trivial | (simp [AllP, condB]; done) | (simp only [AllP]; and_intros <;> first | trivial | decide | omega) | (simp [AllP, condB]; intros; and_intros <;> first | assumption | omega)
  refine G.seqR tfine rfl ?_ ?_
  · first | trivial | (simp [AllP, condB]; done) | (simp only [AllP]; and_intros <;> first | trivial | decide | omega) | (simp [AllP, condB]; intros; and_intros <;> first | assumption | omega)
  refine G.ret (endK.ret rfl ?_)
  first | (rw [thermal_amount]; done) | (rw [thermal_amount]; rfl)
def thermal_corrected (x0 : Int) (x1 : Int) (x2 : Int) (x3 : Int) (x4 : Bool) : Int × Int := if (!(isB x3)) = true then ((0 : Int), (1 : Int)) else if ((((thermal_Factor x1 x2).2) != (0 : Int)) || (!(thermal_amount x0))) = true then ((0 : Int), (2 : Int)) else if x4 = true then ((prod2 x0 (10000000 : Int) ((thermal_Factor x1 x2).1) x3).1, (prod2 x0 (10000000 : Int) ((thermal_Factor x1 x2).1) x3).2) else ((prod2 x0 ((thermal_Factor x1 x2).1) (10000000 : Int) x3).1, (prod2 x0 ((thermal_Factor x1 x2).1) (10000000 : Int) x3).2)
theorem thermal_corrected_any (x0 : Int) (x1 : Int) (x2 : Int) (x3 : Int) (x4 : Bool) (w : World) : Calls Try.prog 69 #[I x0, I x1, I x2, I x3, .bool x4] w fun e w' => e = .returned (.tuple #[I ((thermal_corrected x0 x1 x2 x3 x4).1), I ((thermal_corrected x0 x1 x2 x3 x4).2)]) ∧ Below w.heap.size w w' := by
  refine enterPlain tfine Try.func69 rfl 43 Try.ntmps69 [.c (.k (I x0)), .c (.k (I x1)), .c (.k (I x2)), .c (.k (I x3)), .c (.k (.bool x4))] [] rfl rfl trivial ⟨trivial, trivial, trivial, trivial, trivial, trivial⟩ ?_
  refine G.seqR tfine rfl ?_ ?_
  · first | trivial | (simp [AllP, condB]; done) | (simp only [AllP]; and_intros <;> first | trivial | decide | omega) | (simp [AllP, condB]; intros; and_intros <;> first | assumption | omega)
  refine G.seq ?_
  refine G.seqC tfine rfl ?_ ?_
  · first | trivial | (simp [AllP, condB]; done) | (simp only [AllP]; and_intros <;> first | trivial | decide | omega) | (simp [AllP, condB]; intros; and_intros <;> first | assumption | omega)
  refine GO.callPlain (v := .bool (isB x3))  rfl rfl rfl rfl (fun args w => Try.call75 args w) (fun ρ w hm _ => thRule_any _ w) ?_
  refine GO.fin tfine rfl ?_ ?_
  · first | trivial | (simp [AllP, condB]; done) | (simp only [AllP]; and_intros <;> first | trivial | decide | omega) | (simp [AllP, condB]; intros; and_intros <;> first | assumption | omega)
  refine G.cond rfl (fun h1 => ?_) (fun h1 => ?_)
  · refine G.seqR tfine rfl ?_ ?_
    · first | trivial | (simp [AllP, condB]; done) | (simp only [AllP]; and_intros <;> first | trivial | decide | omega) | (simp [AllP, condB]; intros; and_intros <;> first | assumption | omega)
    refine G.ret (endK.ret rfl ?_)
    first | (rw [thermal_corrected, h1]; done) | (rw [thermal_corrected, h1]; rfl)
  refine G.skip ?_
  refine G.seqC tfine rfl ?_ ?_
  · first | trivial | (simp [AllP, condB]; done) | (simp only [AllP]; and_intros <;> first | trivial | decide | omega) | (simp [AllP, condB]; intros; and_intros <;> first | assumption | omega)
  refine GO.callPlain (v := .tuple #[I ((thermal_Factor x1 x2).1), I ((thermal_Factor x1 x2).2)])  rfl rfl rfl rfl (fun args w => Try.call76 args w) (fun ρ w hm _ => thermal_Factor_any _ _ w) ?_
  refine GO.fin tfine rfl ?_ ?_
  · first | trivial | (simp [AllP, condB]; done) | (simp only [AllP]; and_intros <;> first | trivial | decide | omega) | (simp [AllP, condB]; intros; and_intros <;> first | assumption | omega)
  refine G.seq ?_
  refine G.seqC tfine rfl ?_ ?_
  · first | trivial | (simp [AllP, condB]; done) | (simp only [AllP]; and_intros <;> first | trivial | decide | omega) | (simp [AllP, condB]; intros; and_intros <;> first | assumption | omega)
  refine GO.callGuard (.bool (thermal_amount x0)) rfl rfl rfl (by first | exact trivial | exact ⟨id, trivial⟩ | exact ⟨id, id, trivial⟩ | exact ⟨id, id, id, trivial⟩ | exact ⟨id, id, id, id, trivial⟩) rfl rfl (fun args w => Try.call58 args w) rfl (fun _ m' hle ρ w hs hok => thermal_amount_any _ w) ?_
  refine GO.fin tfine rfl ?_ ?_
  · first | trivial | (simp [AllP, condB]; done) | (simp only [AllP]; and_intros <;> first | trivial | decide | omega) | (simp [AllP, condB]; intros; and_intros <;> first | assumption | omega)
  refine G.cond rfl (fun h2 => ?_) (fun h2 => ?_)
  · refine G.seqR tfine rfl ?_ ?_
    · first | trivial | (simp [AllP, condB]; done) | (simp only [AllP]; and_intros <;> first | trivial | decide | omega) | (simp [AllP, condB]; intros; and_intros <;> first | assumption | omega)
    refine G.ret (endK.ret rfl ?_)
    first | (rw [thermal_corrected, h1, h2]; done) | (rw [thermal_corrected, h1, h2]; rfl)
  refine G.skip ?_
  refine G.seq ?_
  refine G.seqR tfine rfl ?_ ?_
  · first | trivial | (simp [AllP, condB]; done) | (simp only [AllP]; and_intros <;> first | trivial | decide | omega) | (simp [AllP, condB]; intros; and_intros <;> first | assumption | omega)
  refine G.cond rfl (fun h3 => ?_) (fun h3 => ?_)
  · refine G.seqC tfine rfl ?_ ?_
    · first | trivial | (simp [AllP, condB]; done) | (simp only [AllP]; and_intros <;> first | trivial | decide | omega) | (simp [AllP, condB]; intros; and_intros <;> first | assumption | omega)
    refine GO.callPlain (v := .tuple #[I ((prod2 x0 (10000000 : Int) ((thermal_Factor x1 x2).1) x3).1), I ((prod2 x0 (10000000 : Int) ((thermal_Factor x1 x2).1) x3).2)])  rfl rfl rfl rfl (fun args w => Try.call77 args w) (fun ρ w hm _ => rprod_any _ _ _ _ w) ?_
    refine GO.fin tfine rfl ?_ ?_
    · first | trivial | (simp [AllP, condB]; done) | (simp only [AllP]; and_intros <;> first | trivial | decide | omega) | (simp [AllP, condB]; intros; and_intros <;> first | assumption | omega)
    refine G.ret (endK.ret rfl ?_)
    first | (rw [thermal_corrected, h1, h2, h3]; done) | (rw [thermal_corrected, h1, h2, h3]; rfl)
  refine G.skip ?_
  refine G.seqC tfine rfl ?_ ?_
  · first | trivial | (simp [AllP, condB]; done) | (simp only [AllP]; and_intros <;> first | trivial | decide | omega) | (simp [AllP, condB]; intros; and_intros <;> first | assumption | omega)
  refine GO.callPlain (v := .tuple #[I ((prod2 x0 ((thermal_Factor x1 x2).1) (10000000 : Int) x3).1), I ((prod2 x0 ((thermal_Factor x1 x2).1) (10000000 : Int) x3).2)])  rfl rfl rfl rfl (fun args w => Try.call77 args w) (fun ρ w hm _ => rprod_any _ _ _ _ w) ?_
  refine GO.fin tfine rfl ?_ ?_
  · first | trivial | (simp [AllP, condB]; done) | (simp only [AllP]; and_intros <;> first | trivial | decide | omega) | (simp [AllP, condB]; intros; and_intros <;> first | assumption | omega)
  refine G.ret (endK.ret rfl ?_)
  first | (rw [thermal_corrected, h1, h2, h3]; done) | (rw [thermal_corrected, h1, h2, h3]; rfl)
def thermal_At (x0 : Int) (x1 : Int) (x2 : Int) (x3 : Int) : Int × Int := ((thermal_corrected x0 x1 x2 x3 false).1, (thermal_corrected x0 x1 x2 x3 false).2)
def thermal_To20 (x0 : Int) (x1 : Int) (x2 : Int) (x3 : Int) : Int × Int := ((thermal_corrected x0 x1 x2 x3 true).1, (thermal_corrected x0 x1 x2 x3 true).2)
theorem thermal_To20_any (x0 : Int) (x1 : Int) (x2 : Int) (x3 : Int) (w : World) : Calls Try.prog 60 #[I x0, I x1, I x2, I x3] w fun e w' => e = .returned (.tuple #[I ((thermal_To20 x0 x1 x2 x3).1), I ((thermal_To20 x0 x1 x2 x3).2)]) ∧ Below w.heap.size w w' := by
  refine enterPlain tfine Try.func60 rfl 17 Try.ntmps60 [.c (.k (I x0)), .c (.k (I x1)), .c (.k (I x2)), .c (.k (I x3))] [] rfl rfl trivial ⟨trivial, trivial, trivial, trivial, trivial⟩ ?_
  refine G.seqR tfine rfl ?_ ?_
  · first | trivial | (simp [AllP, condB]; done) | (simp only [AllP]; and_intros <;> first | trivial | decide | omega) | (simp [AllP, condB]; intros; and_intros <;> first | assumption | omega)
  refine G.seqC tfine rfl ?_ ?_
  · first | trivial | (simp [AllP, condB]; done) | (simp only [AllP]; and_intros <;> first | trivial | decide | omega) | (simp [AllP, condB]; intros; and_intros <;> first | assumption | omega)
  refine GO.callPlain (v := .tuple #[I ((thermal_corrected x0 x1 x2 x3 true).1), I ((thermal_corrected x0 x1 x2 x3 true).2)])  rfl rfl rfl rfl (fun args w => Try.call69 args w) (fun ρ w hm _ => thermal_corrected_any _ _ _ _ _ w) ?_
  refine GO.fin tfine rfl ?_ ?_
  · first | trivial | (simp [AllP, condB]; done) | (simp only [AllP]; and_intros <;> first | trivial | decide | omega) | (simp [AllP, condB]; intros; and_intros <;> first | assumption | omega)
  refine G.ret (endK.ret rfl ?_)
  first | (rw [thermal_To20]; done) | (rw [thermal_To20]; rfl)
def spileref05_IsHeat (x0 : Int) : Bool := ((decide (x0 ≥ (-400 : Int))) && (decide (x0 ≤ (600 : Int))))
theorem spileref05_IsHeat_any (x0 : Int) (w : World) : Calls Try.prog 61 #[I x0] w fun e w' => e = .returned (.bool (spileref05_IsHeat x0)) ∧ Below w.heap.size w w' := by
  refine enterPlain tfine Try.func61 rfl 9 Try.ntmps61 [.c (.k (I x0))] [] rfl rfl trivial ⟨trivial, trivial⟩ ?_
  refine G.seqR tfine rfl ?_ ?_
  · first | trivial | (simp [AllP, condB]; done) | (simp only [AllP]; and_intros <;> first | trivial | decide | omega) | (simp [AllP, condB]; intros; and_intros <;> first | assumption | omega)
  refine G.seqR tfine rfl ?_ ?_
  · first | trivial | (simp [AllP, condB]; done) | (simp only [AllP]; and_intros <;> first | trivial | decide | omega) | (simp [AllP, condB]; intros; and_intros <;> first | assumption | omega)
  refine G.ret (endK.ret rfl ?_)
  first | (rw [spileref05_IsHeat]; done) | (rw [spileref05_IsHeat]; rfl)
def spileref05_Of (x0 : Int) (x1 : Int) : Int := (IntKind.i64.wrap ((10000000 : Int) + (IntKind.i64.wrap (x0 * (IntKind.i64.wrap (x1 - (200 : Int)))))))
theorem spileref05_Of_any (x0 : Int) (x1 : Int) (w : World) : Calls Try.prog 62 #[I x0, I x1] w fun e w' => e = .returned (I (spileref05_Of x0 x1)) ∧ Below w.heap.size w w' := by
  refine enterPlain tfine Try.func62 rfl 10 Try.ntmps62 [.c (.k (I x0)), .c (.k (I x1))] [] rfl rfl trivial ⟨trivial, trivial, trivial⟩ ?_
  refine G.seqR tfine rfl ?_ ?_
  · first | trivial | (simp [AllP, condB]; done) | (simp only [AllP]; and_intros <;> first | trivial | decide | omega) | (simp [AllP, condB]; intros; and_intros <;> first | assumption | omega)
  refine G.seqR tfine rfl ?_ ?_
  · first | trivial | (simp [AllP, condB]; done) | (simp only [AllP]; and_intros <;> first | trivial | decide | omega) | (simp [AllP, condB]; intros; and_intros <;> first | assumption | omega)
  refine G.ret (endK.ret rfl ?_)
  first | (rw [spileref05_Of]; done) | (rw [spileref05_Of]; rfl)
def spileref05_Factor (x0 : Int) (x1 : Int) : Int × Int := if (((decide (x0 < (0 : Int))) || (decide (x0 > (10000 : Int)))) || (!(spileref05_IsHeat x1))) = true then ((0 : Int), (2 : Int)) else (spileref05_Of x0 x1, (0 : Int))
theorem spileref05_Factor_any (x0 : Int) (x1 : Int) (w : World) : Calls Try.prog 38 #[I x0, I x1] w fun e w' => e = .returned (.tuple #[I ((spileref05_Factor x0 x1).1), I ((spileref05_Factor x0 x1).2)]) ∧ Below w.heap.size w w' := by
  refine enterPlain tfine Try.func38 rfl 20 Try.ntmps38 [.c (.k (I x0)), .c (.k (I x1))] [] rfl rfl trivial ⟨trivial, trivial, trivial⟩ ?_
  refine G.seqR tfine rfl ?_ ?_
  · first | trivial | (simp [AllP, condB]; done) | (simp only [AllP]; and_intros <;> first | trivial | decide | omega) | (simp [AllP, condB]; intros; and_intros <;> first | assumption | omega)
  refine G.seq ?_
  refine G.seqC tfine rfl ?_ ?_
  · first | trivial | (simp [AllP, condB]; done) | (simp only [AllP]; and_intros <;> first | trivial | decide | omega) | (simp [AllP, condB]; intros; and_intros <;> first | assumption | omega)
  refine GO.callGuard (.bool (spileref05_IsHeat x1)) rfl rfl rfl (by first | exact trivial | exact ⟨id, trivial⟩ | exact ⟨id, id, trivial⟩ | exact ⟨id, id, id, trivial⟩ | exact ⟨id, id, id, id, trivial⟩) rfl rfl (fun args w => Try.call61 args w) rfl (fun _ m' hle ρ w hs hok => spileref05_IsHeat_any _ w) ?_
  refine GO.fin tfine rfl ?_ ?_
  · first | trivial | (simp [AllP, condB]; done) | (simp only [AllP]; and_intros <;> first | trivial | decide | omega) | (simp [AllP, condB]; intros; and_intros <;> first | assumption | omega)
  refine G.cond rfl (fun h1 => ?_) (fun h1 => ?_)
  · refine G.seqR tfine rfl ?_ ?_
    · first | trivial | (simp [AllP, condB]; done) | (simp only [AllP]; and_intros <;> first | trivial | decide | omega) | (simp [AllP, condB]; intros; and_intros <;> first | assumption | omega)
    refine G.ret (endK.ret rfl ?_)
    first | (rw [spileref05_Factor, h1]; done) | (rw [spileref05_Factor, h1]; rfl)
  refine G.skip ?_
  refine G.seqC tfine rfl ?_ ?_
  · first | trivial | (simp [AllP, condB]; done) | (simp only [AllP]; and_intros <;> first | trivial | decide | omega) | (simp [AllP, condB]; intros; and_intros <;> first | assumption | omega)
  refine GO.callPlain (v := I (spileref05_Of x0 x1))  rfl rfl rfl rfl (fun args w => Try.call62 args w) (fun ρ w hm _ => spileref05_Of_any _ _ w) ?_
  refine GO.fin tfine rfl ?_ ?_
  · first | trivial | (simp [AllP, condB]; done) | (simp only [AllP]; and_intros <;> first | trivial | decide | omega) | (simp [AllP, condB]; intros; and_intros <;> first | assumption | omega)
  refine G.ret (endK.ret rfl ?_)
  first | (rw [spileref05_Factor, h1]; done) | (rw [spileref05_Factor, h1]; rfl)
def spileref05_ready (x0 : Int) (x1 : Int) (x2 : Int) (x3 : Int) : Int := if (!(isB x3)) = true then ((1 : Int)) else if ((((spileref05_Factor x1 x2).2) != (0 : Int)) || (!(amtB x0))) = true then ((2 : Int)) else ((0 : Int))
theorem spileref05_ready_any (x0 : Int) (x1 : Int) (x2 : Int) (x3 : Int) (w : World) : Calls Try.prog 63 #[I x0, I x1, I x2, I x3] w fun e w' => e = .returned (I (spileref05_ready x0 x1 x2 x3)) ∧ Below w.heap.size w w' := by
  refine enterPlain tfine Try.func63 rfl 27 Try.ntmps63 [.c (.k (I x0)), .c (.k (I x1)), .c (.k (I x2)), .c (.k (I x3))] [] rfl rfl trivial ⟨trivial, trivial, trivial, trivial, trivial⟩ ?_
  refine G.seqR tfine rfl ?_ ?_
  · first | trivial | (simp [AllP, condB]; done) | (simp only [AllP]; and_intros <;> first | trivial | decide | omega) | (simp [AllP, condB]; intros; and_intros <;> first | assumption | omega)
  refine G.seq ?_
  refine G.seqC tfine rfl ?_ ?_
  · first | trivial | (simp [AllP, condB]; done) | (simp only [AllP]; and_intros <;> first | trivial | decide | omega) | (simp [AllP, condB]; intros; and_intros <;> first | assumption | omega)
  refine GO.callPlain (v := .bool (isB x3))  rfl rfl rfl rfl (fun args w => Try.call70 args w) (fun ρ w hm _ => refIs_any _ w) ?_
  refine GO.fin tfine rfl ?_ ?_
  · first | trivial | (simp [AllP, condB]; done) | (simp only [AllP]; and_intros <;> first | trivial | decide | omega) | (simp [AllP, condB]; intros; and_intros <;> first | assumption | omega)
  refine G.cond rfl (fun h1 => ?_) (fun h1 => ?_)
  · refine G.seqR tfine rfl ?_ ?_
    · first | trivial | (simp [AllP, condB]; done) | (simp only [AllP]; and_intros <;> first | trivial | decide | omega) | (simp [AllP, condB]; intros; and_intros <;> first | assumption | omega)
    refine G.ret (endK.ret rfl ?_)
    first | (rw [spileref05_ready, h1]; done) | (rw [spileref05_ready, h1]; rfl)
  refine G.skip ?_
  refine G.seq ?_
  refine G.seqC tfine rfl ?_ ?_
  · first | trivial | (simp [AllP, condB]; done) | (simp only [AllP]; and_intros <;> first | trivial | decide | omega) | (simp [AllP, condB]; intros; and_intros <;> first | assumption | omega)
  refine GO.callPlain (v := .tuple #[I ((spileref05_Factor x1 x2).1), I ((spileref05_Factor x1 x2).2)])  rfl rfl rfl rfl (fun args w => Try.call38 args w) (fun ρ w hm _ => spileref05_Factor_any _ _ w) ?_
  refine GO.fin tfine rfl ?_ ?_
  · first | trivial | (simp [AllP, condB]; done) | (simp only [AllP]; and_intros <;> first | trivial | decide | omega) | (simp [AllP, condB]; intros; and_intros <;> first | assumption | omega)
  refine G.seqC tfine rfl ?_ ?_
  · first | trivial | (simp [AllP, condB]; done) | (simp only [AllP]; and_intros <;> first | trivial | decide | omega) | (simp [AllP, condB]; intros; and_intros <;> first | assumption | omega)
  refine GO.callGuard (.bool (amtB x0)) rfl rfl rfl (by first | exact trivial | exact ⟨id, trivial⟩ | exact ⟨id, id, trivial⟩ | exact ⟨id, id, id, trivial⟩ | exact ⟨id, id, id, id, trivial⟩) rfl rfl (fun args w => Try.call71 args w) rfl (fun _ m' hle ρ w hs hok => ref1Is_any _ w) ?_
  refine GO.fin tfine rfl ?_ ?_
  · first | trivial | (simp [AllP, condB]; done) | (simp only [AllP]; and_intros <;> first | trivial | decide | omega) | (simp [AllP, condB]; intros; and_intros <;> first | assumption | omega)
  refine G.cond rfl (fun h2 => ?_) (fun h2 => ?_)
  · refine G.seqR tfine rfl ?_ ?_
    · first | trivial | (simp [AllP, condB]; done) | (simp only [AllP]; and_intros <;> first | trivial | decide | omega) | (simp [AllP, condB]; intros; and_intros <;> first | assumption | omega)
    refine G.ret (endK.ret rfl ?_)
    first | (rw [spileref05_ready, h1, h2]; done) | (rw [spileref05_ready, h1, h2]; rfl)
  refine G.skip ?_
  refine G.seqR tfine rfl ?_ ?_
  · first | trivial | (simp [AllP, condB]; done) | (simp only [AllP]; and_intros <;> first | trivial | decide | omega) | (simp [AllP, condB]; intros; and_intros <;> first | assumption | omega)
  refine G.ret (endK.ret rfl ?_)
  first | (rw [spileref05_ready, h1, h2]; done) | (rw [spileref05_ready, h1, h2]; rfl)
def spileref05_At (x0 : Int) (x1 : Int) (x2 : Int) (x3 : Int) : Int × Int := if ((spileref05_ready x0 x1 x2 x3) != (0 : Int)) = true then ((0 : Int), spileref05_ready x0 x1 x2 x3) else ((prod2 x0 (spileref05_Of x1 x2) (10000000 : Int) x3).1, (prod2 x0 (spileref05_Of x1 x2) (10000000 : Int) x3).2)
def spileref05_To20 (x0 : Int) (x1 : Int) (x2 : Int) (x3 : Int) : Int × Int := if ((spileref05_ready x0 x1 x2 x3) != (0 : Int)) = true then ((0 : Int), spileref05_ready x0 x1 x2 x3) else ((prod2 x0 (10000000 : Int) (spileref05_Of x1 x2) x3).1, (prod2 x0 (10000000 : Int) (spileref05_Of x1 x2) x3).2)
theorem spileref05_To20_any (x0 : Int) (x1 : Int) (x2 : Int) (x3 : Int) (w : World) : Calls Try.prog 64 #[I x0, I x1, I x2, I x3] w fun e w' => e = .returned (.tuple #[I ((spileref05_To20 x0 x1 x2 x3).1), I ((spileref05_To20 x0 x1 x2 x3).2)]) ∧ Below w.heap.size w w' := by
  refine enterPlain tfine Try.func64 rfl 27 Try.ntmps64 [.c (.k (I x0)), .c (.k (I x1)), .c (.k (I x2)), .c (.k (I x3))] [] rfl rfl trivial ⟨trivial, trivial, trivial, trivial, trivial⟩ ?_
  refine G.seqR tfine rfl ?_ ?_
  · first | trivial | (simp [AllP, condB]; done) | (simp only [AllP]; and_intros <;> first | trivial | decide | omega) | (simp [AllP, condB]; intros; and_intros <;> first | assumption | omega)
  refine G.seq ?_
  refine G.seqC tfine rfl ?_ ?_
  · first | trivial | (simp [AllP, condB]; done) | (simp only [AllP]; and_intros <;> first | trivial | decide | omega) | (simp [AllP, condB]; intros; and_intros <;> first | assumption | omega)
  refine GO.callPlain (v := I (spileref05_ready x0 x1 x2 x3))  rfl rfl rfl rfl (fun args w => Try.call63 args w) (fun ρ w hm _ => spileref05_ready_any _ _ _ _ w) ?_
  refine GO.fin tfine rfl ?_ ?_
  · first | trivial | (simp [AllP, condB]; done) | (simp only [AllP]; and_intros <;> first | trivial | decide | omega) | (simp [AllP, condB]; intros; and_intros <;> first | assumption | omega)
  refine G.seqR tfine rfl ?_ ?_
  · first | trivial | (simp [AllP, condB]; done) | (simp only [AllP]; and_intros <;> first | trivial | decide | omega) | (simp [AllP, condB]; intros; and_intros <;> first | assumption | omega)
  refine G.cond rfl (fun h1 => ?_) (fun h1 => ?_)
  · refine G.seqR tfine rfl ?_ ?_
    · first | trivial | (simp [AllP, condB]; done) | (simp only [AllP]; and_intros <;> first | trivial | decide | omega) | (simp [AllP, condB]; intros; and_intros <;> first | assumption | omega)
    refine G.ret (endK.ret rfl ?_)
    first | (rw [spileref05_To20, h1]; done) | (rw [spileref05_To20, h1]; rfl)
  refine G.skip ?_
  refine G.seqC tfine rfl ?_ ?_
  · first | trivial | (simp [AllP, condB]; done) | (simp only [AllP]; and_intros <;> first | trivial | decide | omega) | (simp [AllP, condB]; intros; and_intros <;> first | assumption | omega)
  refine GO.callPlain (v := I (spileref05_Of x1 x2))  rfl rfl rfl rfl (fun args w => Try.call62 args w) (fun ρ w hm _ => spileref05_Of_any _ _ w) ?_
  refine GO.more tfine rfl ?_ ?_
  · first | trivial | (simp [AllP, condB]; done) | (simp only [AllP]; and_intros <;> first | trivial | decide | omega) | (simp [AllP, condB]; intros; and_intros <;> first | assumption | omega)
  refine GO.callPlain (v := .tuple #[I ((prod2 x0 (10000000 : Int) (spileref05_Of x1 x2) x3).1), I ((prod2 x0 (10000000 : Int) (spileref05_Of x1 x2) x3).2)])  rfl rfl rfl rfl (fun args w => Try.call72 args w) (fun ρ w hm _ => refProduct_any _ _ _ _ w) ?_
  refine GO.fin tfine rfl ?_ ?_
  · first | trivial | (simp [AllP, condB]; done) | (simp only [AllP]; and_intros <;> first | trivial | decide | omega) | (simp [AllP, condB]; intros; and_intros <;> first | assumption | omega)
  refine G.ret (endK.ret rfl ?_)
  first | (rw [spileref05_To20, h1]; done) | (rw [spileref05_To20, h1]; rfl)
def spileref05_Between (x0_0 : Int) (x0_1 : Int) (x1_0 : Int) (x1_1 : Int) (x2 : Int) : Int × Int × Int := if ((decide (x0_0 > x0_1)) || (decide (x1_0 > x1_1))) = true then ((0 : Int), (0 : Int), (1 : Int)) else if (((spileref05_ready x0_0 x2 x1_0 (2 : Int)) != (0 : Int)) || ((spileref05_ready x0_1 x2 x1_1 (2 : Int)) != (0 : Int))) = true then ((0 : Int), (0 : Int), (2 : Int)) else if ((((spileref05_To20 x0_0 x2 x1_1 (1 : Int)).2) != (0 : Int)) || (((spileref05_To20 x0_1 x2 x1_0 (2 : Int)).2) != (0 : Int))) = true then ((0 : Int), (0 : Int), (15 : Int)) else ((spileref05_To20 x0_0 x2 x1_1 (1 : Int)).1, (spileref05_To20 x0_1 x2 x1_0 (2 : Int)).1, (0 : Int))
theorem spileref05_Between_any (x0_0 : Int) (x0_1 : Int) (x1_0 : Int) (x1_1 : Int) (x2 : Int) (w : World) : Calls Try.prog 40 #[.agg #[I x0_0, I x0_1], .agg #[I x1_0, I x1_1], I x2] w fun e w' => e = .returned (.tuple #[.agg #[I ((spileref05_Between x0_0 x0_1 x1_0 x1_1 x2).1), I ((spileref05_Between x0_0 x0_1 x1_0 x1_1 x2).2.1)], I ((spileref05_Between x0_0 x0_1 x1_0 x1_1 x2).2.2)]) ∧ Below w.heap.size w w' := by
  refine enterPlain tfine Try.func40 rfl 70 Try.ntmps40 [.agg [.k (I x0_0), .k (I x0_1)], .agg [.k (I x1_0), .k (I x1_1)], .c (.k (I x2))] [] rfl rfl trivial ⟨⟨trivial, trivial, trivial⟩, ⟨trivial, trivial, trivial⟩, trivial, trivial⟩ ?_
  refine G.seqR tfine rfl ?_ ?_
  · first | trivial | (simp [AllP, condB]; done) | (simp only [AllP]; and_intros <;> first | trivial | decide | omega) | (simp [AllP, condB]; intros; and_intros <;> first | assumption | omega)
  refine G.seq ?_
  refine G.seqR tfine rfl ?_ ?_
  · first | trivial | (simp [AllP, condB]; done) | (simp only [AllP]; and_intros <;> first | trivial | decide | omega) | (simp [AllP, condB]; intros; and_intros <;> first | assumption | omega)
  refine G.cond rfl (fun h1 => ?_) (fun h1 => ?_)
  · refine G.seqR tfine rfl ?_ ?_
    · first | trivial | (simp [AllP, condB]; done) | (simp only [AllP]; and_intros <;> first | trivial | decide | omega) | (simp [AllP, condB]; intros; and_intros <;> first | assumption | omega)
    refine G.ret (endK.ret rfl ?_)
    first | (rw [spileref05_Between, h1]; done) | (rw [spileref05_Between, h1]; rfl)
  refine G.skip ?_
  refine G.seq ?_
  refine G.seqC tfine rfl ?_ ?_
  · first | trivial | (simp [AllP, condB]; done) | (simp only [AllP]; and_intros <;> first | trivial | decide | omega) | (simp [AllP, condB]; intros; and_intros <;> first | assumption | omega)
  refine GO.callPlain (v := I (spileref05_ready x0_0 x2 x1_0 (2 : Int)))  rfl rfl rfl rfl (fun args w => Try.call63 args w) (fun ρ w hm _ => spileref05_ready_any _ _ _ _ w) ?_
  refine GO.more tfine rfl ?_ ?_
  · first | trivial | (simp [AllP, condB]; done) | (simp only [AllP]; and_intros <;> first | trivial | decide | omega) | (simp [AllP, condB]; intros; and_intros <;> first | assumption | omega)
  refine GO.callGuard (I (spileref05_ready x0_1 x2 x1_1 (2 : Int))) rfl rfl rfl (by first | exact trivial | exact ⟨id, trivial⟩ | exact ⟨id, id, trivial⟩ | exact ⟨id, id, id, trivial⟩ | exact ⟨id, id, id, id, trivial⟩) rfl rfl (fun args w => Try.call63 args w) rfl (fun _ m' hle ρ w hs hok => spileref05_ready_any _ _ _ _ w) ?_
  refine GO.fin tfine rfl ?_ ?_
  · first | trivial | (simp [AllP, condB]; done) | (simp only [AllP]; and_intros <;> first | trivial | decide | omega) | (simp [AllP, condB]; intros; and_intros <;> first | assumption | omega)
  refine G.cond rfl (fun h2 => ?_) (fun h2 => ?_)
  · refine G.seqR tfine rfl ?_ ?_
    · first | trivial | (simp [AllP, condB]; done) | (simp only [AllP]; and_intros <;> first | trivial | decide | omega) | (simp [AllP, condB]; intros; and_intros <;> first | assumption | omega)
    refine G.ret (endK.ret rfl ?_)
    first | (rw [spileref05_Between, h1, h2]; done) | (rw [spileref05_Between, h1, h2]; rfl)
  refine G.skip ?_
  refine G.seqC tfine rfl ?_ ?_
  · first | trivial | (simp [AllP, condB]; done) | (simp only [AllP]; and_intros <;> first | trivial | decide | omega) | (simp [AllP, condB]; intros; and_intros <;> first | assumption | omega)
  refine GO.callPlain (v := .tuple #[I ((spileref05_To20 x0_0 x2 x1_1 (1 : Int)).1), I ((spileref05_To20 x0_0 x2 x1_1 (1 : Int)).2)])  rfl rfl rfl rfl (fun args w => Try.call64 args w) (fun ρ w hm _ => spileref05_To20_any _ _ _ _ w) ?_
  refine GO.fin tfine rfl ?_ ?_
  · first | trivial | (simp [AllP, condB]; done) | (simp only [AllP]; and_intros <;> first | trivial | decide | omega) | (simp [AllP, condB]; intros; and_intros <;> first | assumption | omega)
  refine G.seqC tfine rfl ?_ ?_
  · first | trivial | (simp [AllP, condB]; done) | (simp only [AllP]; and_intros <;> first | trivial | decide | omega) | (simp [AllP, condB]; intros; and_intros <;> first | assumption | omega)
  refine GO.callPlain (v := .tuple #[I ((spileref05_To20 x0_1 x2 x1_0 (2 : Int)).1), I ((spileref05_To20 x0_1 x2 x1_0 (2 : Int)).2)])  rfl rfl rfl rfl (fun args w => Try.call64 args w) (fun ρ w hm _ => spileref05_To20_any _ _ _ _ w) ?_
  refine GO.fin tfine rfl ?_ ?_
  · first | trivial | (simp [AllP, condB]; done) | (simp only [AllP]; and_intros <;> first | trivial | decide | omega) | (simp [AllP, condB]; intros; and_intros <;> first | assumption | omega)
  refine G.seq ?_
  refine G.seqR tfine rfl ?_ ?_
  · first | trivial | (simp [AllP, condB]; done) | (simp only [AllP]; and_intros <;> first | trivial | decide | omega) | (simp [AllP, condB]; intros; and_intros <;> first | assumption | omega)
  refine G.cond rfl (fun h3 => ?_) (fun h3 => ?_)
  · refine G.seqR tfine rfl ?_ ?_
    · first | trivial | (simp [AllP, condB]; done) | (simp only [AllP]; and_intros <;> first | trivial | decide | omega) | (simp [AllP, condB]; intros; and_intros <;> first | assumption | omega)
    refine G.ret (endK.ret rfl ?_)
    first | (rw [spileref05_Between, h1, h2, h3]; done) | (rw [spileref05_Between, h1, h2, h3]; rfl)
  refine G.skip ?_
  refine G.seqR tfine rfl ?_ ?_
  · first | trivial | (simp [AllP, condB]; done) | (simp only [AllP]; and_intros <;> first | trivial | decide | omega) | (simp [AllP, condB]; intros; and_intros <;> first | assumption | omega)
  refine G.ret (endK.ret rfl ?_)
  first | (rw [spileref05_Between, h1, h2, h3]; done) | (rw [spileref05_Between, h1, h2, h3]; rfl)
end Go.Proofs.Ytiicemgngccicaa
