/- Chapter 05: the walks of four laws. -/
import Derived.Test.YtbgbndiokckboaaThD
set_option linter.unusedVariables false
set_option linter.unusedSimpArgs false
set_option maxRecDepth 8000
set_option maxHeartbeats 1000000
namespace Go.Proofs.Ytbgbndiokckboaa
open Go.Sx Go.RowKit
def spilelaw05_ThermalCorrects (x0 : Int) (x1 : Int) (x2 : Int) (x3 : Int) : Bool := ((((((((thermal_Factor x1 x2).1) == ((spileref05_Factor x1 x2).1)) && (((thermal_Factor x1 x2).2) == ((spileref05_Factor x1 x2).2))) && (((thermal_At x0 x1 x2 x3).1) == ((spileref05_At x0 x1 x2 x3).1))) && (((thermal_At x0 x1 x2 x3).2) == ((spileref05_At x0 x1 x2 x3).2))) && (((thermal_To20 x0 x1 x2 x3).1) == ((spileref05_To20 x0 x1 x2 x3).1))) && (((thermal_To20 x0 x1 x2 x3).2) == ((spileref05_To20 x0 x1 x2 x3).2)))
theorem spilelaw05_ThermalCorrects_any (x0 : Int) (x1 : Int) (x2 : Int) (x3 : Int) (w : World) : Calls Try.prog 3 #[I x0, I x1, I x2, I x3] w fun e w' => e = .returned (.bool (spilelaw05_ThermalCorrects x0 x1 x2 x3)) ∧ Below w.heap.size w w' := by
  refine enterPlain tfine Try.func3 rfl 95 Try.ntmps3 [.c (.k (I x0)), .c (.k (I x1)), .c (.k (I x2)), .c (.k (I x3))] [] rfl rfl trivial ⟨trivial, trivial, trivial, trivial, trivial⟩ ?_
  refine G.seqR tfine rfl ?_ ?_
  · first | trivial | (simp [AllP, condB]; done) | (simp only [AllP]; and_intros <;> first | trivial | decide | omega) | (simp [AllP, condB]; intros; and_intros <;> first | assumption | omega)
  refine G.seq ?_
  refine G.seqC tfine rfl ?_ ?_
  · first | trivial | (simp [AllP, condB]; done) | (simp only [AllP]; and_intros <;> first | trivial | decide | omega) | (simp [AllP, condB]; intros; and_intros <;> first | assumption | omega)
  refine GO.callPlain (v := .bool true)  rfl rfl rfl rfl (fun args w => Try.call9 args w) (fun ρ w hm _ => awake_any w) ?_
  refine GO.fin tfine rfl ?_ ?_
  · first | trivial | (simp [AllP, condB]; done) | (simp only [AllP]; and_intros <;> first | trivial | decide | omega) | (simp [AllP, condB]; intros; and_intros <;> first | assumption | omega)
  refine G.cond_false rfl ?_
  refine G.skip ?_
  refine G.seqC tfine rfl ?_ ?_
  · first | trivial | (simp [AllP, condB]; done) | (simp only [AllP]; and_intros <;> first | trivial | decide | omega) | (simp [AllP, condB]; intros; and_intros <;> first | assumption | omega)
  refine GO.callPlain (v := .tuple #[I ((thermal_Factor x1 x2).1), I ((thermal_Factor x1 x2).2)])  rfl rfl rfl rfl (fun args w => Try.call10 args w) (fun ρ w hm _ => thermal_Factor_any _ _ w) ?_
  refine GO.fin tfine rfl ?_ ?_
  · first | trivial | (simp [AllP, condB]; done) | (simp only [AllP]; and_intros <;> first | trivial | decide | omega) | (simp [AllP, condB]; intros; and_intros <;> first | assumption | omega)
  refine G.seqC tfine rfl ?_ ?_
  · first | trivial | (simp [AllP, condB]; done) | (simp only [AllP]; and_intros <;> first | trivial | decide | omega) | (simp [AllP, condB]; intros; and_intros <;> first | assumption | omega)
  refine GO.callPlain (v := .tuple #[I ((spileref05_Factor x1 x2).1), I ((spileref05_Factor x1 x2).2)])  rfl rfl rfl rfl (fun args w => Try.call11 args w) (fun ρ w hm _ => spileref05_Factor_any _ _ w) ?_
  refine GO.fin tfine rfl ?_ ?_
  · first | trivial | (simp [AllP, condB]; done) | (simp only [AllP]; and_intros <;> first | trivial | decide | omega) | (simp [AllP, condB]; intros; and_intros <;> first | assumption | omega)
  refine G.seqC tfine rfl ?_ ?_
  · first | trivial | (simp [AllP, condB]; done) | (simp only [AllP]; and_intros <;> first | trivial | decide | omega) | (simp [AllP, condB]; intros; and_intros <;> first | assumption | omega)
  refine GO.callPlain (v := .tuple #[I ((thermal_At x0 x1 x2 x3).1), I ((thermal_At x0 x1 x2 x3).2)])  rfl rfl rfl rfl (fun args w => Try.call12 args w) (fun ρ w hm _ => thermal_At_any _ _ _ _ w) ?_
  refine GO.fin tfine rfl ?_ ?_
  · first | trivial | (simp [AllP, condB]; done) | (simp only [AllP]; and_intros <;> first | trivial | decide | omega) | (simp [AllP, condB]; intros; and_intros <;> first | assumption | omega)
  refine G.seqC tfine rfl ?_ ?_
  · first | trivial | (simp [AllP, condB]; done) | (simp only [AllP]; and_intros <;> first | trivial | decide | omega) | (simp [AllP, condB]; intros; and_intros <;> first | assumption | omega)
  refine GO.callPlain (v := .tuple #[I ((spileref05_At x0 x1 x2 x3).1), I ((spileref05_At x0 x1 x2 x3).2)])  rfl rfl rfl rfl (fun args w => Try.call13 args w) (fun ρ w hm _ => spileref05_At_any _ _ _ _ w) ?_
  refine GO.fin tfine rfl ?_ ?_
  · first | trivial | (simp [AllP, condB]; done) | (simp only [AllP]; and_intros <;> first | trivial | decide | omega) | (simp [AllP, condB]; intros; and_intros <;> first | assumption | omega)
  refine G.seqC tfine rfl ?_ ?_
  · first | trivial | (simp [AllP, condB]; done) | (simp only [AllP]; and_intros <;> first | trivial | decide | omega) | (simp [AllP, condB]; intros; and_intros <;> first | assumption | omega)
  refine GO.callPlain (v := .tuple #[I ((thermal_To20 x0 x1 x2 x3).1), I ((thermal_To20 x0 x1 x2 x3).2)])  rfl rfl rfl rfl (fun args w => Try.call14 args w) (fun ρ w hm _ => thermal_To20_any _ _ _ _ w) ?_
  refine GO.fin tfine rfl ?_ ?_
  · first | trivial | (simp [AllP, condB]; done) | (simp only [AllP]; and_intros <;> first | trivial | decide | omega) | (simp [AllP, condB]; intros; and_intros <;> first | assumption | omega)
  refine G.seqC tfine rfl ?_ ?_
  · first | trivial | (simp [AllP, condB]; done) | (simp only [AllP]; and_intros <;> first | trivial | decide | omega) | (simp [AllP, condB]; intros; and_intros <;> first | assumption | omega)
  refine GO.callPlain (v := .tuple #[I ((spileref05_To20 x0 x1 x2 x3).1), I ((spileref05_To20 x0 x1 x2 x3).2)])  rfl rfl rfl rfl (fun args w => Try.call15 args w) (fun ρ w hm _ => spileref05_To20_any _ _ _ _ w) ?_
  refine GO.fin tfine rfl ?_ ?_
  · first | trivial | (simp [AllP, condB]; done) | (simp only [AllP]; and_intros <;> first | trivial | decide | omega) | (simp [AllP, condB]; intros; and_intros <;> first | assumption | omega)
  refine G.seqR tfine rfl ?_ ?_
  · first | trivial | (simp [AllP, condB]; done) | (simp only [AllP]; and_intros <;> first | trivial | decide | omega) | (simp [AllP, condB]; intros; and_intros <;> first | assumption | omega)
  refine G.ret (endK.ret rfl ?_)
  first | (rw [spilelaw05_ThermalCorrects]; done) | (rw [spilelaw05_ThermalCorrects]; rfl)
def spilelaw05_ThermalBack (x0 : Int) (x1 : Int) (x2 : Int) (x3 : Int) : Bool := if (((thermal_At x0 x1 x2 x3).2) == (0 : Int)) = true then if (((((thermal_To20 ((thermal_At x0 x1 x2 x3).1) x1 x2 x3).2) == (0 : Int)) && ((decide ((IntKind.i64.wrap (((thermal_To20 ((thermal_At x0 x1 x2 x3).1) x1 x2 x3).1) - x0)) > (4 : Int))) || (decide ((IntKind.i64.wrap (x0 - ((thermal_To20 ((thermal_At x0 x1 x2 x3).1) x1 x2 x3).1))) > (4 : Int))))) || ((((thermal_To20 ((thermal_At x0 x1 x2 x3).1) x1 x2 x3).2) != (0 : Int)) && (((thermal_To20 ((thermal_At x0 x1 x2 x3).1) x1 x2 x3).2) != (15 : Int)))) = true then (false) else if (((thermal_To20 x0 x1 x2 x3).2) == (0 : Int)) = true then if (((((thermal_At ((thermal_To20 x0 x1 x2 x3).1) x1 x2 x3).2) == (0 : Int)) && ((decide ((IntKind.i64.wrap (((thermal_At ((thermal_To20 x0 x1 x2 x3).1) x1 x2 x3).1) - x0)) > (3 : Int))) || (decide ((IntKind.i64.wrap (x0 - ((thermal_At ((thermal_To20 x0 x1 x2 x3).1) x1 x2 x3).1))) > (3 : Int))))) || ((((thermal_At ((thermal_To20 x0 x1 x2 x3).1) x1 x2 x3).2) != (0 : Int)) && (((thermal_At ((thermal_To20 x0 x1 x2 x3).1) x1 x2 x3).2) != (15 : Int)))) = true then (false) else if (((x2 == (200 : Int)) || (x1 == (0 : Int))) && ((((thermal_At x0 x1 x2 x3).2) == (0 : Int)) || (((thermal_To20 x0 x1 x2 x3).2) == (0 : Int)))) = true then (((((thermal_At x0 x1 x2 x3).2) == ((thermal_To20 x0 x1 x2 x3).2)) && (((thermal_At x0 x1 x2 x3).1) == x0)) && (((thermal_To20 x0 x1 x2 x3).1) == x0)) else (((((thermal_At x0 x1 x2 x3).2) == (0 : Int)) || (((thermal_At x0 x1 x2 x3).1) == (0 : Int))) && ((((thermal_To20 x0 x1 x2 x3).2) == (0 : Int)) || (((thermal_To20 x0 x1 x2 x3).1) == (0 : Int)))) else if (((x2 == (200 : Int)) || (x1 == (0 : Int))) && ((((thermal_At x0 x1 x2 x3).2) == (0 : Int)) || (((thermal_To20 x0 x1 x2 x3).2) == (0 : Int)))) = true then (((((thermal_At x0 x1 x2 x3).2) == ((thermal_To20 x0 x1 x2 x3).2)) && (((thermal_At x0 x1 x2 x3).1) == x0)) && (((thermal_To20 x0 x1 x2 x3).1) == x0)) else (((((thermal_At x0 x1 x2 x3).2) == (0 : Int)) || (((thermal_At x0 x1 x2 x3).1) == (0 : Int))) && ((((thermal_To20 x0 x1 x2 x3).2) == (0 : Int)) || (((thermal_To20 x0 x1 x2 x3).1) == (0 : Int)))) else if (((thermal_To20 x0 x1 x2 x3).2) == (0 : Int)) = true then if (((((thermal_At ((thermal_To20 x0 x1 x2 x3).1) x1 x2 x3).2) == (0 : Int)) && ((decide ((IntKind.i64.wrap (((thermal_At ((thermal_To20 x0 x1 x2 x3).1) x1 x2 x3).1) - x0)) > (3 : Int))) || (decide ((IntKind.i64.wrap (x0 - ((thermal_At ((thermal_To20 x0 x1 x2 x3).1) x1 x2 x3).1))) > (3 : Int))))) || ((((thermal_At ((thermal_To20 x0 x1 x2 x3).1) x1 x2 x3).2) != (0 : Int)) && (((thermal_At ((thermal_To20 x0 x1 x2 x3).1) x1 x2 x3).2) != (15 : Int)))) = true then (false) else if (((x2 == (200 : Int)) || (x1 == (0 : Int))) && ((((thermal_At x0 x1 x2 x3).2) == (0 : Int)) || (((thermal_To20 x0 x1 x2 x3).2) == (0 : Int)))) = true then (((((thermal_At x0 x1 x2 x3).2) == ((thermal_To20 x0 x1 x2 x3).2)) && (((thermal_At x0 x1 x2 x3).1) == x0)) && (((thermal_To20 x0 x1 x2 x3).1) == x0)) else (((((thermal_At x0 x1 x2 x3).2) == (0 : Int)) || (((thermal_At x0 x1 x2 x3).1) == (0 : Int))) && ((((thermal_To20 x0 x1 x2 x3).2) == (0 : Int)) || (((thermal_To20 x0 x1 x2 x3).1) == (0 : Int)))) else if (((x2 == (200 : Int)) || (x1 == (0 : Int))) && ((((thermal_At x0 x1 x2 x3).2) == (0 : Int)) || (((thermal_To20 x0 x1 x2 x3).2) == (0 : Int)))) = true then (((((thermal_At x0 x1 x2 x3).2) == ((thermal_To20 x0 x1 x2 x3).2)) && (((thermal_At x0 x1 x2 x3).1) == x0)) && (((thermal_To20 x0 x1 x2 x3).1) == x0)) else (((((thermal_At x0 x1 x2 x3).2) == (0 : Int)) || (((thermal_At x0 x1 x2 x3).1) == (0 : Int))) && ((((thermal_To20 x0 x1 x2 x3).2) == (0 : Int)) || (((thermal_To20 x0 x1 x2 x3).1) == (0 : Int))))
theorem spilelaw05_ThermalBack_any (x0 : Int) (x1 : Int) (x2 : Int) (x3 : Int) (w : World) : Calls Try.prog 4 #[I x0, I x1, I x2, I x3] w fun e w' => e = .returned (.bool (spilelaw05_ThermalBack x0 x1 x2 x3)) ∧ Below w.heap.size w w' := by
  refine enterPlain tfine Try.func4 rfl 140 Try.ntmps4 [.c (.k (I x0)), .c (.k (I x1)), .c (.k (I x2)), .c (.k (I x3))] [] rfl rfl trivial ⟨trivial, trivial, trivial, trivial, trivial⟩ ?_
  refine G.seqR tfine rfl ?_ ?_
  · first | trivial | (simp [AllP, condB]; done) | (simp only [AllP]; and_intros <;> first | trivial | decide | omega) | (simp [AllP, condB]; intros; and_intros <;> first | assumption | omega)
  refine G.seq ?_
  refine G.seqC tfine rfl ?_ ?_
  · first | trivial | (simp [AllP, condB]; done) | (simp only [AllP]; and_intros <;> first | trivial | decide | omega) | (simp [AllP, condB]; intros; and_intros <;> first | assumption | omega)
  refine GO.callPlain (v := .bool true)  rfl rfl rfl rfl (fun args w => Try.call9 args w) (fun ρ w hm _ => awake_any w) ?_
  refine GO.fin tfine rfl ?_ ?_
  · first | trivial | (simp [AllP, condB]; done) | (simp only [AllP]; and_intros <;> first | trivial | decide | omega) | (simp [AllP, condB]; intros; and_intros <;> first | assumption | omega)
  refine G.cond_false rfl ?_
  refine G.skip ?_
  refine G.seqC tfine rfl ?_ ?_
  · first | trivial | (simp [AllP, condB]; done) | (simp only [AllP]; and_intros <;> first | trivial | decide | omega) | (simp [AllP, condB]; intros; and_intros <;> first | assumption | omega)
  refine GO.callPlain (v := .tuple #[I ((thermal_At x0 x1 x2 x3).1), I ((thermal_At x0 x1 x2 x3).2)])  rfl rfl rfl rfl (fun args w => Try.call12 args w) (fun ρ w hm _ => thermal_At_any _ _ _ _ w) ?_
  refine GO.fin tfine rfl ?_ ?_
  · first | trivial | (simp [AllP, condB]; done) | (simp only [AllP]; and_intros <;> first | trivial | decide | omega) | (simp [AllP, condB]; intros; and_intros <;> first | assumption | omega)
  refine G.seqC tfine rfl ?_ ?_
  · first | trivial | (simp [AllP, condB]; done) | (simp only [AllP]; and_intros <;> first | trivial | decide | omega) | (simp [AllP, condB]; intros; and_intros <;> first | assumption | omega)
  refine GO.callPlain (v := .tuple #[I ((thermal_To20 x0 x1 x2 x3).1), I ((thermal_To20 x0 x1 x2 x3).2)])  rfl rfl rfl rfl (fun args w => Try.call14 args w) (fun ρ w hm _ => thermal_To20_any _ _ _ _ w) ?_
  refine GO.fin tfine rfl ?_ ?_
  · first | trivial | (simp [AllP, condB]; done) | (simp only [AllP]; and_intros <;> first | trivial | decide | omega) | (simp [AllP, condB]; intros; and_intros <;> first | assumption | omega)
  refine G.seq ?_
  refine G.seqR tfine rfl ?_ ?_
  · first | trivial | (simp [AllP, condB]; done) | (simp only [AllP]; and_intros <;> first | trivial | decide | omega) | (simp [AllP, condB]; intros; and_intros <;> first | assumption | omega)
  refine G.cond rfl (fun h1 => ?_) (fun h1 => ?_)
  · refine G.seqC tfine rfl ?_ ?_
    · first | trivial | (simp [AllP, condB]; done) | (simp only [AllP]; and_intros <;> first | trivial | decide | omega) | (simp [AllP, condB]; intros; and_intros <;> first | assumption | omega)
    refine GO.callPlain (v := .tuple #[I ((thermal_To20 ((thermal_At x0 x1 x2 x3).1) x1 x2 x3).1), I ((thermal_To20 ((thermal_At x0 x1 x2 x3).1) x1 x2 x3).2)])  rfl rfl rfl rfl (fun args w => Try.call14 args w) (fun ρ w hm _ => thermal_To20_any _ _ _ _ w) ?_
    refine GO.fin tfine rfl ?_ ?_
    · first | trivial | (simp [AllP, condB]; done) | (simp only [AllP]; and_intros <;> first | trivial | decide | omega) | (simp [AllP, condB]; intros; and_intros <;> first | assumption | omega)
    refine G.seqR tfine rfl ?_ ?_
    · first | trivial | (simp [AllP, condB]; done) | (simp only [AllP]; and_intros <;> first | trivial | decide | omega) | (simp [AllP, condB]; intros; and_intros <;> first | assumption | omega)
    refine G.cond rfl (fun h2 => ?_) (fun h2 => ?_)
    · refine G.seqR tfine rfl ?_ ?_
      · first | trivial | (simp [AllP, condB]; done) | (simp only [AllP]; and_intros <;> first | trivial | decide | omega) | (simp [AllP, condB]; intros; and_intros <;> first | assumption | omega)
      refine G.ret (endK.ret rfl ?_)
      first | (rw [spilelaw05_ThermalBack, if_pos h1, if_pos h2]; done) | (rw [spilelaw05_ThermalBack, if_pos h1, if_pos h2]; rfl)
    refine G.skip ?_
    refine G.seq ?_
    refine G.seqR tfine rfl ?_ ?_
    · first | trivial | (simp [AllP, condB]; done) | (simp only [AllP]; and_intros <;> first | trivial | decide | omega) | (simp [AllP, condB]; intros; and_intros <;> first | assumption | omega)
    refine G.cond rfl (fun h3 => ?_) (fun h3 => ?_)
    · refine G.seqC tfine rfl ?_ ?_
      · first | trivial | (simp [AllP, condB]; done) | (simp only [AllP]; and_intros <;> first | trivial | decide | omega) | (simp [AllP, condB]; intros; and_intros <;> first | assumption | omega)
      refine GO.callPlain (v := .tuple #[I ((thermal_At ((thermal_To20 x0 x1 x2 x3).1) x1 x2 x3).1), I ((thermal_At ((thermal_To20 x0 x1 x2 x3).1) x1 x2 x3).2)])  rfl rfl rfl rfl (fun args w => Try.call12 args w) (fun ρ w hm _ => thermal_At_any _ _ _ _ w) ?_
      refine GO.fin tfine rfl ?_ ?_
      · first | trivial | (simp [AllP, condB]; done) | (simp only [AllP]; and_intros <;> first | trivial | decide | omega) | (simp [AllP, condB]; intros; and_intros <;> first | assumption | omega)
      refine G.seqR tfine rfl ?_ ?_
      · first | trivial | (simp [AllP, condB]; done) | (simp only [AllP]; and_intros <;> first | trivial | decide | omega) | (simp [AllP, condB]; intros; and_intros <;> first | assumption | omega)
      refine G.cond rfl (fun h4 => ?_) (fun h4 => ?_)
      · refine G.seqR tfine rfl ?_ ?_
        · first | trivial | (simp [AllP, condB]; done) | (simp only [AllP]; and_intros <;> first | trivial | decide | omega) | (simp [AllP, condB]; intros; and_intros <;> first | assumption | omega)
        refine G.ret (endK.ret rfl ?_)
        first | (rw [spilelaw05_ThermalBack, if_pos h1, if_neg (fne h2), if_pos h3, if_pos h4]; done) | (rw [spilelaw05_ThermalBack, if_pos h1, if_neg (fne h2), if_pos h3, if_pos h4]; rfl)
      refine G.skip ?_
      refine G.seq ?_
      refine G.seqR tfine rfl ?_ ?_
      · first | trivial | (simp [AllP, condB]; done) | (simp only [AllP]; and_intros <;> first | trivial | decide | omega) | (simp [AllP, condB]; intros; and_intros <;> first | assumption | omega)
      refine G.cond rfl (fun h5 => ?_) (fun h5 => ?_)
      · refine G.seqR tfine rfl ?_ ?_
        · first | trivial | (simp [AllP, condB]; done) | (simp only [AllP]; and_intros <;> first | trivial | decide | omega) | (simp [AllP, condB]; intros; and_intros <;> first | assumption | omega)
        refine G.ret (endK.ret rfl ?_)
        first | (rw [spilelaw05_ThermalBack, if_pos h1, if_neg (fne h2), if_pos h3, if_neg (fne h4), if_pos h5]; done) | (rw [spilelaw05_ThermalBack, if_pos h1, if_neg (fne h2), if_pos h3, if_neg (fne h4), if_pos h5]; rfl)
      refine G.skip ?_
      refine G.seqR tfine rfl ?_ ?_
      · first | trivial | (simp [AllP, condB]; done) | (simp only [AllP]; and_intros <;> first | trivial | decide | omega) | (simp [AllP, condB]; intros; and_intros <;> first | assumption | omega)
      refine G.ret (endK.ret rfl ?_)
      first | (rw [spilelaw05_ThermalBack, if_pos h1, if_neg (fne h2), if_pos h3, if_neg (fne h4), if_neg (fne h5)]; done) | (rw [spilelaw05_ThermalBack, if_pos h1, if_neg (fne h2), if_pos h3, if_neg (fne h4), if_neg (fne h5)]; rfl)
    refine G.skip ?_
    refine G.seq ?_
    refine G.seqR tfine rfl ?_ ?_
    · first | trivial | (simp [AllP, condB]; done) | (simp only [AllP]; and_intros <;> first | trivial | decide | omega) | (simp [AllP, condB]; intros; and_intros <;> first | assumption | omega)
    refine G.cond rfl (fun h6 => ?_) (fun h6 => ?_)
    · refine G.seqR tfine rfl ?_ ?_
      · first | trivial | (simp [AllP, condB]; done) | (simp only [AllP]; and_intros <;> first | trivial | decide | omega) | (simp [AllP, condB]; intros; and_intros <;> first | assumption | omega)
      refine G.ret (endK.ret rfl ?_)
      first | (rw [spilelaw05_ThermalBack, if_pos h1, if_neg (fne h2), if_neg (fne h3), if_pos h6]; done) | (rw [spilelaw05_ThermalBack, if_pos h1, if_neg (fne h2), if_neg (fne h3), if_pos h6]; rfl)
    refine G.skip ?_
    refine G.seqR tfine rfl ?_ ?_
    · first | trivial | (simp [AllP, condB]; done) | (simp only [AllP]; and_intros <;> first | trivial | decide | omega) | (simp [AllP, condB]; intros; and_intros <;> first | assumption | omega)
    refine G.ret (endK.ret rfl ?_)
    first | (rw [spilelaw05_ThermalBack, if_pos h1, if_neg (fne h2), if_neg (fne h3), if_neg (fne h6)]; done) | (rw [spilelaw05_ThermalBack, if_pos h1, if_neg (fne h2), if_neg (fne h3), if_neg (fne h6)]; rfl)
  refine G.skip ?_
  refine G.seq ?_
  refine G.seqR tfine rfl ?_ ?_
  · first | trivial | (simp [AllP, condB]; done) | (simp only [AllP]; and_intros <;> first | trivial | decide | omega) | (simp [AllP, condB]; intros; and_intros <;> first | assumption | omega)
  refine G.cond rfl (fun h7 => ?_) (fun h7 => ?_)
  · refine G.seqC tfine rfl ?_ ?_
    · first | trivial | (simp [AllP, condB]; done) | (simp only [AllP]; and_intros <;> first | trivial | decide | omega) | (simp [AllP, condB]; intros; and_intros <;> first | assumption | omega)
    refine GO.callPlain (v := .tuple #[I ((thermal_At ((thermal_To20 x0 x1 x2 x3).1) x1 x2 x3).1), I ((thermal_At ((thermal_To20 x0 x1 x2 x3).1) x1 x2 x3).2)])  rfl rfl rfl rfl (fun args w => Try.call12 args w) (fun ρ w hm _ => thermal_At_any _ _ _ _ w) ?_
    refine GO.fin tfine rfl ?_ ?_
    · first | trivial | (simp [AllP, condB]; done) | (simp only [AllP]; and_intros <;> first | trivial | decide | omega) | (simp [AllP, condB]; intros; and_intros <;> first | assumption | omega)
    refine G.seqR tfine rfl ?_ ?_
    · first | trivial | (simp [AllP, condB]; done) | (simp only [AllP]; and_intros <;> first | trivial | decide | omega) | (simp [AllP, condB]; intros; and_intros <;> first | assumption | omega)
    refine G.cond rfl (fun h8 => ?_) (fun h8 => ?_)
    · refine G.seqR tfine rfl ?_ ?_
      · first | trivial | (simp [AllP, condB]; done) | (simp only [AllP]; and_intros <;> first | trivial | decide | omega) | (simp [AllP, condB]; intros; and_intros <;> first | assumption | omega)
      refine G.ret (endK.ret rfl ?_)
      first | (rw [spilelaw05_ThermalBack, if_neg (fne h1), if_pos h7, if_pos h8]; done) | (rw [spilelaw05_ThermalBack, if_neg (fne h1), if_pos h7, if_pos h8]; rfl)
    refine G.skip ?_
    refine G.seq ?_
    refine G.seqR tfine rfl ?_ ?_
    · first | trivial | (simp [AllP, condB]; done) | (simp only [AllP]; and_intros <;> first | trivial | decide | omega) | (simp [AllP, condB]; intros; and_intros <;> first | assumption | omega)
    refine G.cond rfl (fun h9 => ?_) (fun h9 => ?_)
    · refine G.seqR tfine rfl ?_ ?_
      · first | trivial | (simp [AllP, condB]; done) | (simp only [AllP]; and_intros <;> first | trivial | decide | omega) | (simp [AllP, condB]; intros; and_intros <;> first | assumption | omega)
      refine G.ret (endK.ret rfl ?_)
      first | (rw [spilelaw05_ThermalBack, if_neg (fne h1), if_pos h7, if_neg (fne h8), if_pos h9]; done) | (rw [spilelaw05_ThermalBack, if_neg (fne h1), if_pos h7, if_neg (fne h8), if_pos h9]; rfl)
    refine G.skip ?_
    refine G.seqR tfine rfl ?_ ?_
    · first | trivial | (simp [AllP, condB]; done) | (simp only [AllP]; and_intros <;> first | trivial | decide | omega) | (simp [AllP, condB]; intros; and_intros <;> first | assumption | omega)
    refine G.ret (endK.ret rfl ?_)
    first | (rw [spilelaw05_ThermalBack, if_neg (fne h1), if_pos h7, if_neg (fne h8), if_neg (fne h9)]; done) | (rw [spilelaw05_ThermalBack, if_neg (fne h1), if_pos h7, if_neg (fne h8), if_neg (fne h9)]; rfl)
  refine G.skip ?_
  refine G.seq ?_
  refine G.seqR tfine rfl ?_ ?_
  · first | trivial | (simp [AllP, condB]; done) | (simp only [AllP]; and_intros <;> first | trivial | decide | omega) | (simp [AllP, condB]; intros; and_intros <;> first | assumption | omega)
  refine G.cond rfl (fun h10 => ?_) (fun h10 => ?_)
  · refine G.seqR tfine rfl ?_ ?_
    · first | trivial | (simp [AllP, condB]; done) | (simp only [AllP]; and_intros <;> first | trivial | decide | omega) | (simp [AllP, condB]; intros; and_intros <;> first | assumption | omega)
    refine G.ret (endK.ret rfl ?_)
    first | (rw [spilelaw05_ThermalBack, if_neg (fne h1), if_neg (fne h7), if_pos h10]; done) | (rw [spilelaw05_ThermalBack, if_neg (fne h1), if_neg (fne h7), if_pos h10]; rfl)
  refine G.skip ?_
  refine G.seqR tfine rfl ?_ ?_
  · first | trivial | (simp [AllP, condB]; done) | (simp only [AllP]; and_intros <;> first | trivial | decide | omega) | (simp [AllP, condB]; intros; and_intros <;> first | assumption | omega)
  refine G.ret (endK.ret rfl ?_)
  first | (rw [spilelaw05_ThermalBack, if_neg (fne h1), if_neg (fne h7), if_neg (fne h10)]; done) | (rw [spilelaw05_ThermalBack, if_neg (fne h1), if_neg (fne h7), if_neg (fne h10)]; rfl)
def spilelaw05_ThermalOrder (x0 : Int) (x1 : Int) (x2 : Int) (x3_0 : Int) (x3_1 : Int) (x4 : Int) : Bool := if ((((decide (x1 < (0 : Int))) || (decide (x1 > (128849018880000 : Int)))) || (decide (x0 > (128849018880000 : Int)))) || (decide (x3_0 > x3_1))) = true then (true) else if ((((((thermal_To20 x0 x2 x3_0 x4).2) == (0 : Int)) && (((thermal_To20 x0 x2 x3_1 x4).2) == (0 : Int))) && (decide (((thermal_To20 x0 x2 x3_1 x4).1) > ((thermal_To20 x0 x2 x3_0 x4).1)))) || (((((thermal_To20 x0 x2 x3_0 x4).2) == (0 : Int)) && (((thermal_To20 (IntKind.i64.wrap (x0 + x1)) x2 x3_0 x4).2) == (0 : Int))) && (decide (((thermal_To20 (IntKind.i64.wrap (x0 + x1)) x2 x3_0 x4).1) < ((thermal_To20 x0 x2 x3_0 x4).1))))) = true then (false) else (!((((((thermal_At x0 x2 x3_0 x4).2) == (0 : Int)) && (((thermal_At x0 x2 x3_1 x4).2) == (0 : Int))) && (decide (((thermal_At x0 x2 x3_1 x4).1) < ((thermal_At x0 x2 x3_0 x4).1)))) || (((((thermal_At x0 x2 x3_0 x4).2) == (0 : Int)) && (((thermal_At (IntKind.i64.wrap (x0 + x1)) x2 x3_0 x4).2) == (0 : Int))) && (decide (((thermal_At (IntKind.i64.wrap (x0 + x1)) x2 x3_0 x4).1) < ((thermal_At x0 x2 x3_0 x4).1))))))
theorem spilelaw05_ThermalOrder_any (x0 : Int) (x1 : Int) (x2 : Int) (x3_0 : Int) (x3_1 : Int) (x4 : Int) (w : World) : Calls Try.prog 5 #[I x0, I x1, I x2, .agg #[I x3_0, I x3_1], I x4] w fun e w' => e = .returned (.bool (spilelaw05_ThermalOrder x0 x1 x2 x3_0 x3_1 x4)) ∧ Below w.heap.size w w' := by
  refine enterPlain tfine Try.func5 rfl 146 Try.ntmps5 [.c (.k (I x0)), .c (.k (I x1)), .c (.k (I x2)), .agg [.k (I x3_0), .k (I x3_1)], .c (.k (I x4))] [] rfl rfl trivial ⟨trivial, trivial, trivial, ⟨trivial, trivial, trivial⟩, trivial, trivial⟩ ?_
  refine G.seqR tfine rfl ?_ ?_
  · first | trivial | (simp [AllP, condB]; done) | (simp only [AllP]; and_intros <;> first | trivial | decide | omega) | (simp [AllP, condB]; intros; and_intros <;> first | assumption | omega)
  refine G.seq ?_
  refine G.seqC tfine rfl ?_ ?_
  · first | trivial | (simp [AllP, condB]; done) | (simp only [AllP]; and_intros <;> first | trivial | decide | omega) | (simp [AllP, condB]; intros; and_intros <;> first | assumption | omega)
  refine GO.callPlain (v := .bool true)  rfl rfl rfl rfl (fun args w => Try.call9 args w) (fun ρ w hm _ => awake_any w) ?_
  refine GO.fin tfine rfl ?_ ?_
  · first | trivial | (simp [AllP, condB]; done) | (simp only [AllP]; and_intros <;> first | trivial | decide | omega) | (simp [AllP, condB]; intros; and_intros <;> first | assumption | omega)
  refine G.cond_false rfl ?_
  refine G.skip ?_
  refine G.seq ?_
  refine G.seqR tfine rfl ?_ ?_
  · first | trivial | (simp [AllP, condB]; done) | (simp only [AllP]; and_intros <;> first | trivial | decide | omega) | (simp [AllP, condB]; intros; and_intros <;> first | assumption | omega)
  refine G.cond rfl (fun h1 => ?_) (fun h1 => ?_)
  · refine G.seqR tfine rfl ?_ ?_
    · first | trivial | (simp [AllP, condB]; done) | (simp only [AllP]; and_intros <;> first | trivial | decide | omega) | (simp [AllP, condB]; intros; and_intros <;> first | assumption | omega)
    refine G.ret (endK.ret rfl ?_)
    first | (rw [spilelaw05_ThermalOrder, if_pos h1]; done) | (rw [spilelaw05_ThermalOrder, if_pos h1]; rfl)
  refine G.skip ?_
  refine G.seqC tfine rfl ?_ ?_
  · first | trivial | (simp [AllP, condB]; done) | (simp only [AllP]; and_intros <;> first | trivial | decide | omega) | (simp [AllP, condB]; intros; and_intros <;> first | assumption | omega)
  refine GO.callPlain (v := .tuple #[I ((thermal_To20 x0 x2 x3_0 x4).1), I ((thermal_To20 x0 x2 x3_0 x4).2)])  rfl rfl rfl rfl (fun args w => Try.call14 args w) (fun ρ w hm _ => thermal_To20_any _ _ _ _ w) ?_
  refine GO.fin tfine rfl ?_ ?_
  · first | trivial | (simp [AllP, condB]; done) | (simp only [AllP]; and_intros <;> first | trivial | decide | omega) | (simp [AllP, condB]; intros; and_intros <;> first | assumption | omega)
  refine G.seqC tfine rfl ?_ ?_
  · first | trivial | (simp [AllP, condB]; done) | (simp only [AllP]; and_intros <;> first | trivial | decide | omega) | (simp [AllP, condB]; intros; and_intros <;> first | assumption | omega)
  refine GO.callPlain (v := .tuple #[I ((thermal_To20 x0 x2 x3_1 x4).1), I ((thermal_To20 x0 x2 x3_1 x4).2)])  rfl rfl rfl rfl (fun args w => Try.call14 args w) (fun ρ w hm _ => thermal_To20_any _ _ _ _ w) ?_
  refine GO.fin tfine rfl ?_ ?_
  · first | trivial | (simp [AllP, condB]; done) | (simp only [AllP]; and_intros <;> first | trivial | decide | omega) | (simp [AllP, condB]; intros; and_intros <;> first | assumption | omega)
  refine G.seqC tfine rfl ?_ ?_
  · first | trivial | (simp [AllP, condB]; done) | (simp only [AllP]; and_intros <;> first | trivial | decide | omega) | (simp [AllP, condB]; intros; and_intros <;> first | assumption | omega)
  refine GO.callPlain (v := .tuple #[I ((thermal_To20 (IntKind.i64.wrap (x0 + x1)) x2 x3_0 x4).1), I ((thermal_To20 (IntKind.i64.wrap (x0 + x1)) x2 x3_0 x4).2)])  rfl rfl rfl rfl (fun args w => Try.call14 args w) (fun ρ w hm _ => thermal_To20_any _ _ _ _ w) ?_
  refine GO.fin tfine rfl ?_ ?_
  · first | trivial | (simp [AllP, condB]; done) | (simp only [AllP]; and_intros <;> first | trivial | decide | omega) | (simp [AllP, condB]; intros; and_intros <;> first | assumption | omega)
  refine G.seq ?_
  refine G.seqR tfine rfl ?_ ?_
  · first | trivial | (simp [AllP, condB]; done) | (simp only [AllP]; and_intros <;> first | trivial | decide | omega) | (simp [AllP, condB]; intros; and_intros <;> first | assumption | omega)
  refine G.cond rfl (fun h2 => ?_) (fun h2 => ?_)
  · refine G.seqR tfine rfl ?_ ?_
    · first | trivial | (simp [AllP, condB]; done) | (simp only [AllP]; and_intros <;> first | trivial | decide | omega) | (simp [AllP, condB]; intros; and_intros <;> first | assumption | omega)
    refine G.ret (endK.ret rfl ?_)
    first | (rw [spilelaw05_ThermalOrder, if_neg (fne h1), if_pos h2]; done) | (rw [spilelaw05_ThermalOrder, if_neg (fne h1), if_pos h2]; rfl)
  refine G.skip ?_
  refine G.seqC tfine rfl ?_ ?_
  · first | trivial | (simp [AllP, condB]; done) | (simp only [AllP]; and_intros <;> first | trivial | decide | omega) | (simp [AllP, condB]; intros; and_intros <;> first | assumption | omega)
  refine GO.callPlain (v := .tuple #[I ((thermal_At x0 x2 x3_0 x4).1), I ((thermal_At x0 x2 x3_0 x4).2)])  rfl rfl rfl rfl (fun args w => Try.call12 args w) (fun ρ w hm _ => thermal_At_any _ _ _ _ w) ?_
  refine GO.fin tfine rfl ?_ ?_
  · first | trivial | (simp [AllP, condB]; done) | (simp only [AllP]; and_intros <;> first | trivial | decide | omega) | (simp [AllP, condB]; intros; and_intros <;> first | assumption | omega)
  refine G.seqC tfine rfl ?_ ?_
  · first | trivial | (simp [AllP, condB]; done) | (simp only [AllP]; and_intros <;> first | trivial | decide | omega) | (simp [AllP, condB]; intros; and_intros <;> first | assumption | omega)
  refine GO.callPlain (v := .tuple #[I ((thermal_At x0 x2 x3_1 x4).1), I ((thermal_At x0 x2 x3_1 x4).2)])  rfl rfl rfl rfl (fun args w => Try.call12 args w) (fun ρ w hm _ => thermal_At_any _ _ _ _ w) ?_
  refine GO.fin tfine rfl ?_ ?_
  · first | trivial | (simp [AllP, condB]; done) | (simp only [AllP]; and_intros <;> first | trivial | decide | omega) | (simp [AllP, condB]; intros; and_intros <;> first | assumption | omega)
  refine G.seqC tfine rfl ?_ ?_
  · first | trivial | (simp [AllP, condB]; done) | (simp only [AllP]; and_intros <;> first | trivial | decide | omega) | (simp [AllP, condB]; intros; and_intros <;> first | assumption | omega)
  refine GO.callPlain (v := .tuple #[I ((thermal_At (IntKind.i64.wrap (x0 + x1)) x2 x3_0 x4).1), I ((thermal_At (IntKind.i64.wrap (x0 + x1)) x2 x3_0 x4).2)])  rfl rfl rfl rfl (fun args w => Try.call12 args w) (fun ρ w hm _ => thermal_At_any _ _ _ _ w) ?_
  refine GO.fin tfine rfl ?_ ?_
  · first | trivial | (simp [AllP, condB]; done) | (simp only [AllP]; and_intros <;> first | trivial | decide | omega) | (simp [AllP, condB]; intros; and_intros <;> first | assumption | omega)
  refine G.seqR tfine rfl ?_ ?_
  · first | trivial | (simp [AllP, condB]; done) | (simp only [AllP]; and_intros <;> first | trivial | decide | omega) | (simp [AllP, condB]; intros; and_intros <;> first | assumption | omega)
  refine G.ret (endK.ret rfl ?_)
  first | (rw [spilelaw05_ThermalOrder, if_neg (fne h1), if_neg (fne h2)]; done) | (rw [spilelaw05_ThermalOrder, if_neg (fne h1), if_neg (fne h2)]; rfl)
def spilelaw05_ThermalContains (x0_0 : Int) (x0_1 : Int) (x1_0 : Int) (x1_1 : Int) (x2 : Int) (x3_0 : Int) (x3_1 : Int) (x4 : Int) : Bool := if (((btw3 x0_0 x0_1 x1_0 x1_1 x2).2.2) != (0 : Int)) = true then (((((btw3 x0_0 x0_1 x1_0 x1_1 x2).1) == (0 : Int)) && (((btw3 x0_0 x0_1 x1_0 x1_1 x2).2.1) == (0 : Int)))) else if (((thermal_To20 (IntKind.i64.wrap (x0_0 + (IntKind.i64.wrap ((IntKind.i64.wrap ((IntKind.i64.wrap (x0_1 - x0_0)).tdiv (255 : Int))) * (IntKind.i64.wrap x3_0))))) x2 (IntKind.i64.wrap (x1_0 + (IntKind.i64.wrap ((IntKind.i64.wrap ((IntKind.i64.wrap (x1_1 - x1_0)) * (IntKind.i64.wrap x3_1))).tdiv (255 : Int))))) x4).2) != (0 : Int)) = true then ((((thermal_To20 (IntKind.i64.wrap (x0_0 + (IntKind.i64.wrap ((IntKind.i64.wrap ((IntKind.i64.wrap (x0_1 - x0_0)).tdiv (255 : Int))) * (IntKind.i64.wrap x3_0))))) x2 (IntKind.i64.wrap (x1_0 + (IntKind.i64.wrap ((IntKind.i64.wrap ((IntKind.i64.wrap (x1_1 - x1_0)) * (IntKind.i64.wrap x3_1))).tdiv (255 : Int))))) x4).2) == (1 : Int)) && ((decide (x4 < (1 : Int))) || (decide (x4 > (4 : Int))))) else ((decide (((btw3 x0_0 x0_1 x1_0 x1_1 x2).1) ≤ ((thermal_To20 (IntKind.i64.wrap (x0_0 + (IntKind.i64.wrap ((IntKind.i64.wrap ((IntKind.i64.wrap (x0_1 - x0_0)).tdiv (255 : Int))) * (IntKind.i64.wrap x3_0))))) x2 (IntKind.i64.wrap (x1_0 + (IntKind.i64.wrap ((IntKind.i64.wrap ((IntKind.i64.wrap (x1_1 - x1_0)) * (IntKind.i64.wrap x3_1))).tdiv (255 : Int))))) x4).1))) && (decide (((thermal_To20 (IntKind.i64.wrap (x0_0 + (IntKind.i64.wrap ((IntKind.i64.wrap ((IntKind.i64.wrap (x0_1 - x0_0)).tdiv (255 : Int))) * (IntKind.i64.wrap x3_0))))) x2 (IntKind.i64.wrap (x1_0 + (IntKind.i64.wrap ((IntKind.i64.wrap ((IntKind.i64.wrap (x1_1 - x1_0)) * (IntKind.i64.wrap x3_1))).tdiv (255 : Int))))) x4).1) ≤ ((btw3 x0_0 x0_1 x1_0 x1_1 x2).2.1))))
theorem spilelaw05_ThermalContains_any (x0_0 : Int) (x0_1 : Int) (x1_0 : Int) (x1_1 : Int) (x2 : Int) (x3_0 : Int) (x3_1 : Int) (x4 : Int) (w : World) : Calls Try.prog 6 #[.agg #[I x0_0, I x0_1], .agg #[I x1_0, I x1_1], I x2, .agg #[Value.int .u8 x3_0, Value.int .u8 x3_1], I x4] w fun e w' => e = .returned (.bool (spilelaw05_ThermalContains x0_0 x0_1 x1_0 x1_1 x2 x3_0 x3_1 x4)) ∧ Below w.heap.size w w' := by
  refine enterPlain tfine Try.func6 rfl 87 Try.ntmps6 [.agg [.k (I x0_0), .k (I x0_1)], .agg [.k (I x1_0), .k (I x1_1)], .c (.k (I x2)), .agg [.k (Value.int .u8 x3_0), .k (Value.int .u8 x3_1)], .c (.k (I x4))] [] rfl rfl trivial ⟨⟨trivial, trivial, trivial⟩, ⟨trivial, trivial, trivial⟩, trivial, ⟨trivial, trivial, trivial⟩, trivial, trivial⟩ ?_
  refine G.seqR tfine rfl ?_ ?_
  · first | trivial | (simp [AllP, condB]; done) | (simp only [AllP]; and_intros <;> first | trivial | decide | omega) | (simp [AllP, condB]; intros; and_intros <;> first | assumption | omega)
  refine G.seq ?_
  refine G.seqC tfine rfl ?_ ?_
  · first | trivial | (simp [AllP, condB]; done) | (simp only [AllP]; and_intros <;> first | trivial | decide | omega) | (simp [AllP, condB]; intros; and_intros <;> first | assumption | omega)
  refine GO.callPlain (v := .bool true)  rfl rfl rfl rfl (fun args w => Try.call9 args w) (fun ρ w hm _ => awake_any w) ?_
  refine GO.fin tfine rfl ?_ ?_
  · first | trivial | (simp [AllP, condB]; done) | (simp only [AllP]; and_intros <;> first | trivial | decide | omega) | (simp [AllP, condB]; intros; and_intros <;> first | assumption | omega)
  refine G.cond_false rfl ?_
  refine G.skip ?_
  refine G.seqC tfine rfl ?_ ?_
  · first | trivial | (simp [AllP, condB]; done) | (simp only [AllP]; and_intros <;> first | trivial | decide | omega) | (simp [AllP, condB]; intros; and_intros <;> first | assumption | omega)
  refine GO.callPlain (v := .tuple #[.agg #[I ((btw3 x0_0 x0_1 x1_0 x1_1 x2).1), I ((btw3 x0_0 x0_1 x1_0 x1_1 x2).2.1)], I ((btw3 x0_0 x0_1 x1_0 x1_1 x2).2.2)])  rfl rfl rfl rfl (fun args w => Try.call16 args w) (fun ρ w hm _ => between_any _ _ _ _ _ w) ?_
  refine GO.fin tfine rfl ?_ ?_
  · first | trivial | (simp [AllP, condB]; done) | (simp only [AllP]; and_intros <;> first | trivial | decide | omega) | (simp [AllP, condB]; intros; and_intros <;> first | assumption | omega)
  refine G.seq ?_
  refine G.seqR tfine rfl ?_ ?_
  · first | trivial | (simp [AllP, condB]; done) | (simp only [AllP]; and_intros <;> first | trivial | decide | omega) | (simp [AllP, condB]; intros; and_intros <;> first | assumption | omega)
  refine G.cond rfl (fun h1 => ?_) (fun h1 => ?_)
  · refine G.seqC tfine rfl ?_ ?_
    · first | trivial | (simp [AllP, condB]; done) | (simp only [AllP]; and_intros <;> first | trivial | decide | omega) | (simp [AllP, condB]; intros; and_intros <;> first | assumption | omega)
    refine GO.structEq false [I ((btw3 x0_0 x0_1 x1_0 x1_1 x2).1), I ((btw3 x0_0 x0_1 x1_0 x1_1 x2).2.1)] [I (0 : Int), I (0 : Int)] (((((btw3 x0_0 x0_1 x1_0 x1_1 x2).1) == (0 : Int)) && (((btw3 x0_0 x0_1 x1_0 x1_1 x2).2.1) == (0 : Int)))) rfl cmp_api_Bounds rfl rfl rfl rfl rfl (by kernel_rfl) ?_
    refine GO.fin tfine rfl ?_ ?_
    · first | trivial | (simp [AllP, condB]; done) | (simp only [AllP]; and_intros <;> first | trivial | decide | omega) | (simp [AllP, condB]; intros; and_intros <;> first | assumption | omega)
    refine G.ret (endK.ret rfl ?_)
    first | (rw [spilelaw05_ThermalContains, if_pos h1]; done) | (rw [spilelaw05_ThermalContains, if_pos h1]; rfl)
  refine G.skip ?_
  refine G.seqR tfine rfl ?_ ?_
  · first | trivial | (simp [AllP, condB]; done) | (simp only [AllP]; and_intros <;> first | trivial | decide | omega) | (simp [AllP, condB]; intros; and_intros <;> first | assumption | omega)
  refine G.seqR tfine rfl ?_ ?_
  · first | trivial | (simp [AllP, condB]; done) | (simp only [AllP]; and_intros <;> first | trivial | decide | omega) | (simp [AllP, condB]; intros; and_intros <;> first | assumption | omega)
  refine G.seqC tfine rfl ?_ ?_
  · first | trivial | (simp [AllP, condB]; done) | (simp only [AllP]; and_intros <;> first | trivial | decide | omega) | (simp [AllP, condB]; intros; and_intros <;> first | assumption | omega)
  refine GO.callPlain (v := .tuple #[I ((thermal_To20 (IntKind.i64.wrap (x0_0 + (IntKind.i64.wrap ((IntKind.i64.wrap ((IntKind.i64.wrap (x0_1 - x0_0)).tdiv (255 : Int))) * (IntKind.i64.wrap x3_0))))) x2 (IntKind.i64.wrap (x1_0 + (IntKind.i64.wrap ((IntKind.i64.wrap ((IntKind.i64.wrap (x1_1 - x1_0)) * (IntKind.i64.wrap x3_1))).tdiv (255 : Int))))) x4).1), I ((thermal_To20 (IntKind.i64.wrap (x0_0 + (IntKind.i64.wrap ((IntKind.i64.wrap ((IntKind.i64.wrap (x0_1 - x0_0)).tdiv (255 : Int))) * (IntKind.i64.wrap x3_0))))) x2 (IntKind.i64.wrap (x1_0 + (IntKind.i64.wrap ((IntKind.i64.wrap ((IntKind.i64.wrap (x1_1 - x1_0)) * (IntKind.i64.wrap x3_1))).tdiv (255 : Int))))) x4).2)])  rfl rfl rfl rfl (fun args w => Try.call14 args w) (fun ρ w hm _ => thermal_To20_any _ _ _ _ w) ?_
  refine GO.fin tfine rfl ?_ ?_
  · first | trivial | (simp [AllP, condB]; done) | (simp only [AllP]; and_intros <;> first | trivial | decide | omega) | (simp [AllP, condB]; intros; and_intros <;> first | assumption | omega)
  refine G.seq ?_
  refine G.seqR tfine rfl ?_ ?_
  · first | trivial | (simp [AllP, condB]; done) | (simp only [AllP]; and_intros <;> first | trivial | decide | omega) | (simp [AllP, condB]; intros; and_intros <;> first | assumption | omega)
  refine G.cond rfl (fun h2 => ?_) (fun h2 => ?_)
  · refine G.seqR tfine rfl ?_ ?_
    · first | trivial | (simp [AllP, condB]; done) | (simp only [AllP]; and_intros <;> first | trivial | decide | omega) | (simp [AllP, condB]; intros; and_intros <;> first | assumption | omega)
    refine G.ret (endK.ret rfl ?_)
    first | (rw [spilelaw05_ThermalContains, if_neg (fne h1), if_pos h2]; done) | (rw [spilelaw05_ThermalContains, if_neg (fne h1), if_pos h2]; rfl)
  refine G.skip ?_
  refine G.seqR tfine rfl ?_ ?_
  · first | trivial | (simp [AllP, condB]; done) | (simp only [AllP]; and_intros <;> first | trivial | decide | omega) | (simp [AllP, condB]; intros; and_intros <;> first | assumption | omega)
  refine G.ret (endK.ret rfl ?_)
  first | (rw [spilelaw05_ThermalContains, if_neg (fne h1), if_neg (fne h2)]; done) | (rw [spilelaw05_ThermalContains, if_neg (fne h1), if_neg (fne h2)]; rfl)
end Go.Proofs.Ytbgbndiokckboaa
