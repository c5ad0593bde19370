/- Chapter 15: readings, right reports, and their difference. -/
import Derived.Test.YtiicemgngccicaaThD
import Derived.Test.YtiicemgngccicaaSxW
set_option linter.unusedVariables false
set_option linter.unusedSimpArgs false
set_option maxRecDepth 8000
set_option maxHeartbeats 1000000
namespace Go.Proofs.Ytiicemgngccicaa
open Go.Sx Go.RowKit
theorem refBetween_any (a b s t r : Int) (w : World) : Calls Try.prog 40 #[.agg #[I a, I b], .agg #[I s, I t], I r] w fun e w' => e = .returned (.tuple #[.agg #[I (btw3 a b s t r).1, I (btw3 a b s t r).2.1], I (btw3 a b s t r).2.2]) ∧ Below w.heap.size w w' := by
  have := spileref05_Between_any a b s t r w
  rwa [btw_eq] at this
def gauge_in (x0 : Int) (x1 : Int) (x2 : Int) : Bool := ((decide (x0 ≥ x1)) && (decide (x0 ≤ x2)))
theorem gauge_in_any (x0 : Int) (x1 : Int) (x2 : Int) (w : World) : Calls Try.prog 35 #[I x0, I x1, I x2] w fun e w' => e = .returned (.bool (gauge_in x0 x1 x2)) ∧ Below w.heap.size w w' := by
  refine enterPlain tfine Try.func35 rfl 15 Try.ntmps35 [.c (.k (I x0)), .c (.k (I x1)), .c (.k (I x2))] [] rfl rfl trivial ⟨trivial, trivial, trivial, trivial⟩ ?_
  refine G.seqR tfine rfl ?_ ?_
  · first | trivial | (simp [AllP, condB]; done) | (simp only [AllP]; and_intros <;> first | trivial | decide | omega) | (simp [AllP, condB]; intros; and_intros <;> first | assumption | omega)
  refine G.seqR tfine rfl ?_ ?_
  · first | trivial | (simp [AllP, condB]; done) | (simp only [AllP]; and_intros <;> first | trivial | decide | omega) | (simp [AllP, condB]; intros; and_intros <;> first | assumption | omega)
  refine G.ret (endK.ret rfl ?_)
  first | (rw [gauge_in]; done) | (rw [gauge_in]; rfl)
def gauge_times (x0_0 : Int) (x0_1 : Int) (x1 : Int) : Int × Int := (IntKind.i64.wrap (x0_0 * x1), IntKind.i64.wrap (x0_1 * x1))
theorem gauge_times_any (x0_0 : Int) (x0_1 : Int) (x1 : Int) (w : World) : Calls Try.prog 37 #[.agg #[I x0_0, I x0_1], I x1] w fun e w' => e = .returned (.agg #[I ((gauge_times x0_0 x0_1 x1).1), I ((gauge_times x0_0 x0_1 x1).2)]) ∧ Below w.heap.size w w' := by
  refine enterPlain tfine Try.func37 rfl 14 Try.ntmps37 [.agg [.k (I x0_0), .k (I x0_1)], .c (.k (I x1))] [] rfl rfl trivial ⟨⟨trivial, trivial, trivial⟩, trivial, trivial⟩ ?_
  refine G.seqR tfine rfl ?_ ?_
  · first | trivial | (simp [AllP, condB]; done) | (simp only [AllP]; and_intros <;> first | trivial | decide | omega) | (simp [AllP, condB]; intros; and_intros <;> first | assumption | omega)
  refine G.seqR tfine rfl ?_ ?_
  · first | trivial | (simp [AllP, condB]; done) | (simp only [AllP]; and_intros <;> first | trivial | decide | omega) | (simp [AllP, condB]; intros; and_intros <;> first | assumption | omega)
  refine G.ret (endK.ret rfl ?_)
  first | (rw [gauge_times]; done) | (rw [gauge_times]; rfl)
def spileref15_times (x0_0 : Int) (x0_1 : Int) (x1 : Int) : Int × Int := (IntKind.i64.wrap (x0_0 * x1), IntKind.i64.wrap (x0_1 * x1))
theorem spileref15_times_any (x0_0 : Int) (x0_1 : Int) (x1 : Int) (w : World) : Calls Try.prog 41 #[.agg #[I x0_0, I x0_1], I x1] w fun e w' => e = .returned (.agg #[I ((spileref15_times x0_0 x0_1 x1).1), I ((spileref15_times x0_0 x0_1 x1).2)]) ∧ Below w.heap.size w w' := by
  refine enterPlain tfine Try.func41 rfl 14 Try.ntmps41 [.agg [.k (I x0_0), .k (I x0_1)], .c (.k (I x1))] [] rfl rfl trivial ⟨⟨trivial, trivial, trivial⟩, trivial, trivial⟩ ?_
  refine G.seqR tfine rfl ?_ ?_
  · first | trivial | (simp [AllP, condB]; done) | (simp only [AllP]; and_intros <;> first | trivial | decide | omega) | (simp [AllP, condB]; intros; and_intros <;> first | assumption | omega)
  refine G.seqR tfine rfl ?_ ?_
  · first | trivial | (simp [AllP, condB]; done) | (simp only [AllP]; and_intros <;> first | trivial | decide | omega) | (simp [AllP, condB]; intros; and_intros <;> first | assumption | omega)
  refine G.ret (endK.ret rfl ?_)
  first | (rw [spileref15_times]; done) | (rw [spileref15_times]; rfl)
def spileref15_IsReading (x0_0 : Int) (x0_1 : Int) (x0_2 : Int) (x0_3 : Int) : Bool := (((((((decide (x0_0 ≥ (0 : Int))) && (decide (x0_0 ≤ (100000 : Int)))) && (decide (x0_1 ≥ (0 : Int)))) && (decide (x0_1 ≤ (200000 : Int)))) && (spileref05_IsHeat x0_2)) && (decide (x0_3 ≥ (0 : Int)))) && (decide (x0_3 ≤ (10000 : Int))))
theorem spileref15_IsReading_any (x0_0 : Int) (x0_1 : Int) (x0_2 : Int) (x0_3 : Int) (w : World) : Calls Try.prog 39 #[.agg #[I x0_0, I x0_1, I x0_2, I x0_3]] w fun e w' => e = .returned (.bool (spileref15_IsReading x0_0 x0_1 x0_2 x0_3)) ∧ Below w.heap.size w w' := by
  refine enterPlain tfine Try.func39 rfl 36 Try.ntmps39 [.agg [.k (I x0_0), .k (I x0_1), .k (I x0_2), .k (I x0_3)]] [] rfl rfl trivial ⟨⟨trivial, trivial, trivial, trivial, trivial⟩, trivial⟩ ?_
  refine G.seqR tfine rfl ?_ ?_
  · first | trivial | (simp [AllP, condB]; done) | (simp only [AllP]; and_intros <;> first | trivial | decide | omega) | (simp [AllP, condB]; intros; and_intros <;> first | assumption | omega)
  refine G.seqC tfine rfl ?_ ?_
  · first | trivial | (simp [AllP, condB]; done) | (simp only [AllP]; and_intros <;> first | trivial | decide | omega) | (simp [AllP, condB]; intros; and_intros <;> first | assumption | omega)
  refine GO.callGuard (.bool (spileref05_IsHeat x0_2)) rfl rfl rfl (by first | exact trivial | exact ⟨id, trivial⟩ | exact ⟨id, id, trivial⟩ | exact ⟨id, id, id, trivial⟩ | exact ⟨id, id, id, id, trivial⟩) rfl rfl (fun args w => Try.call61 args w) rfl (fun _ m' hle ρ w hs hok => spileref05_IsHeat_any _ w) ?_
  refine GO.fin tfine rfl ?_ ?_
  · first | trivial | (simp [AllP, condB]; done) | (simp only [AllP]; and_intros <;> first | trivial | decide | omega) | (simp [AllP, condB]; intros; and_intros <;> first | assumption | omega)
  refine G.ret (endK.ret rfl ?_)
  first | (rw [spileref15_IsReading]; done) | (rw [spileref15_IsReading]; rfl)
def gauge_Check (x0_0 : Int) (x0_1 : Int) (x0_2 : Int) (x0_3 : Int) : Int := if ((((!(gauge_in x0_0 (0 : Int) (100000 : Int))) || (!(gauge_in x0_1 (0 : Int) (200000 : Int)))) || (!(gauge_in x0_2 (-400 : Int) (600 : Int)))) || (!(gauge_in x0_3 (0 : Int) (10000 : Int)))) = true then ((2 : Int)) else ((0 : Int))
theorem gauge_Check_any (x0_0 : Int) (x0_1 : Int) (x0_2 : Int) (x0_3 : Int) (w : World) : Calls Try.prog 16 #[.agg #[I x0_0, I x0_1, I x0_2, I x0_3]] w fun e w' => e = .returned (I (gauge_Check x0_0 x0_1 x0_2 x0_3)) ∧ Below w.heap.size w w' := by
  refine enterPlain tfine Try.func16 rfl 25 Try.ntmps16 [.agg [.k (I x0_0), .k (I x0_1), .k (I x0_2), .k (I x0_3)]] [] rfl rfl trivial ⟨⟨trivial, trivial, trivial, trivial, trivial⟩, trivial⟩ ?_
  refine G.seqR tfine rfl ?_ ?_
  · first | trivial | (simp [AllP, condB]; done) | (simp only [AllP]; and_intros <;> first | trivial | decide | omega) | (simp [AllP, condB]; intros; and_intros <;> first | assumption | omega)
  refine G.seq ?_
  refine G.seqC tfine rfl ?_ ?_
  · first | trivial | (simp [AllP, condB]; done) | (simp only [AllP]; and_intros <;> first | trivial | decide | omega) | (simp [AllP, condB]; intros; and_intros <;> first | assumption | omega)
  refine GO.callPlain (v := .bool (gauge_in x0_0 (0 : Int) (100000 : Int)))  rfl rfl rfl rfl (fun args w => Try.call35 args w) (fun ρ w hm _ => gauge_in_any _ _ _ w) ?_
  refine GO.more tfine rfl ?_ ?_
  · first | trivial | (simp [AllP, condB]; done) | (simp only [AllP]; and_intros <;> first | trivial | decide | omega) | (simp [AllP, condB]; intros; and_intros <;> first | assumption | omega)
  refine GO.callGuard (.bool (gauge_in x0_1 (0 : Int) (200000 : Int))) rfl rfl rfl (by first | exact trivial | exact ⟨id, trivial⟩ | exact ⟨id, id, trivial⟩ | exact ⟨id, id, id, trivial⟩ | exact ⟨id, id, id, id, trivial⟩) rfl rfl (fun args w => Try.call35 args w) rfl (fun _ m' hle ρ w hs hok => gauge_in_any _ _ _ w) ?_
  refine GO.more tfine rfl ?_ ?_
  · first | trivial | (simp [AllP, condB]; done) | (simp only [AllP]; and_intros <;> first | trivial | decide | omega) | (simp [AllP, condB]; intros; and_intros <;> first | assumption | omega)
  refine GO.callGuard (.bool (gauge_in x0_2 (-400 : Int) (600 : Int))) rfl rfl rfl (by first | exact trivial | exact ⟨id, trivial⟩ | exact ⟨id, id, trivial⟩ | exact ⟨id, id, id, trivial⟩ | exact ⟨id, id, id, id, trivial⟩) rfl rfl (fun args w => Try.call35 args w) rfl (fun _ m' hle ρ w hs hok => gauge_in_any _ _ _ w) ?_
  refine GO.more tfine rfl ?_ ?_
  · first | trivial | (simp [AllP, condB]; done) | (simp only [AllP]; and_intros <;> first | trivial | decide | omega) | (simp [AllP, condB]; intros; and_intros <;> first | assumption | omega)
  refine GO.callGuard (.bool (gauge_in x0_3 (0 : Int) (10000 : Int))) rfl rfl rfl (by first | exact trivial | exact ⟨id, trivial⟩ | exact ⟨id, id, trivial⟩ | exact ⟨id, id, id, trivial⟩ | exact ⟨id, id, id, id, trivial⟩) rfl rfl (fun args w => Try.call35 args w) rfl (fun _ m' hle ρ w hs hok => gauge_in_any _ _ _ w) ?_
  refine GO.fin tfine rfl ?_ ?_
  · first | trivial | (simp [AllP, condB]; done) | (simp only [AllP]; and_intros <;> first | trivial | decide | omega) | (simp [AllP, condB]; intros; and_intros <;> first | assumption | omega)
  refine G.cond rfl (fun h1 => ?_) (fun h1 => ?_)
  · refine G.seqR tfine rfl ?_ ?_
    · first | trivial | (simp [AllP, condB]; done) | (simp only [AllP]; and_intros <;> first | trivial | decide | omega) | (simp [AllP, condB]; intros; and_intros <;> first | assumption | omega)
    refine G.ret (endK.ret rfl ?_)
    first | (rw [gauge_Check, if_pos h1]; done) | (rw [gauge_Check, if_pos h1]; rfl)
  refine G.skip ?_
  refine G.seqR tfine rfl ?_ ?_
  · first | trivial | (simp [AllP, condB]; done) | (simp only [AllP]; and_intros <;> first | trivial | decide | omega) | (simp [AllP, condB]; intros; and_intros <;> first | assumption | omega)
  refine G.ret (endK.ret rfl ?_)
  first | (rw [gauge_Check, if_neg (fne h1)]; done) | (rw [gauge_Check, if_neg (fne h1)]; rfl)
def spileref15_Check (x0_0 : Int) (x0_1 : Int) (x0_2 : Int) (x0_3 : Int) : Int := if (!(spileref15_IsReading x0_0 x0_1 x0_2 x0_3)) = true then ((2 : Int)) else ((0 : Int))
theorem spileref15_Check_any (x0_0 : Int) (x0_1 : Int) (x0_2 : Int) (x0_3 : Int) (w : World) : Calls Try.prog 17 #[.agg #[I x0_0, I x0_1, I x0_2, I x0_3]] w fun e w' => e = .returned (I (spileref15_Check x0_0 x0_1 x0_2 x0_3)) ∧ Below w.heap.size w w' := by
  refine enterPlain tfine Try.func17 rfl 6 Try.ntmps17 [.agg [.k (I x0_0), .k (I x0_1), .k (I x0_2), .k (I x0_3)]] [] rfl rfl trivial ⟨⟨trivial, trivial, trivial, trivial, trivial⟩, trivial⟩ ?_
  refine G.seqR tfine rfl ?_ ?_
  · first | trivial | (simp [AllP, condB]; done) | (simp only [AllP]; and_intros <;> first | trivial | decide | omega) | (simp [AllP, condB]; intros; and_intros <;> first | assumption | omega)
  refine G.seq ?_
  refine G.seqC tfine rfl ?_ ?_
  · first | trivial | (simp [AllP, condB]; done) | (simp only [AllP]; and_intros <;> first | trivial | decide | omega) | (simp [AllP, condB]; intros; and_intros <;> first | assumption | omega)
  refine GO.callPlain (v := .bool (spileref15_IsReading x0_0 x0_1 x0_2 x0_3))  rfl rfl rfl rfl (fun args w => Try.call39 args w) (fun ρ w hm _ => spileref15_IsReading_any _ _ _ _ w) ?_
  refine GO.fin tfine rfl ?_ ?_
  · first | trivial | (simp [AllP, condB]; done) | (simp only [AllP]; and_intros <;> first | trivial | decide | omega) | (simp [AllP, condB]; intros; and_intros <;> first | assumption | omega)
  refine G.cond rfl (fun h1 => ?_) (fun h1 => ?_)
  · refine G.seqR tfine rfl ?_ ?_
    · first | trivial | (simp [AllP, condB]; done) | (simp only [AllP]; and_intros <;> first | trivial | decide | omega) | (simp [AllP, condB]; intros; and_intros <;> first | assumption | omega)
    refine G.ret (endK.ret rfl ?_)
    first | (rw [spileref15_Check, if_pos h1]; done) | (rw [spileref15_Check, if_pos h1]; rfl)
  refine G.skip ?_
  refine G.seqR tfine rfl ?_ ?_
  · first | trivial | (simp [AllP, condB]; done) | (simp only [AllP]; and_intros <;> first | trivial | decide | omega) | (simp [AllP, condB]; intros; and_intros <;> first | assumption | omega)
  refine G.ret (endK.ret rfl ?_)
  first | (rw [spileref15_Check, if_neg (fne h1)]; done) | (rw [spileref15_Check, if_neg (fne h1)]; rfl)
def dip_volume (x0 : Int) : Bool := ((decide (x0 ≥ (0 : Int))) && (decide (x0 ≤ (4294967296 : Int))))
theorem dip_volume_any (x0 : Int) (w : World) : Calls Try.prog 53 #[I x0] w fun e w' => e = .returned (.bool (dip_volume x0)) ∧ Below w.heap.size w w' := by
  refine enterPlain tfine Try.func53 rfl 9 Try.ntmps53 [.c (.k (I x0))] [] rfl rfl trivial ⟨trivial, trivial⟩ ?_
  refine G.seqR tfine rfl ?_ ?_
  · first | trivial | (simp [AllP, condB]; done) | (simp only [AllP]; and_intros <;> first | trivial | decide | omega) | (simp [AllP, condB]; intros; and_intros <;> first | assumption | omega)
  refine G.seqR tfine rfl ?_ ?_
  · first | trivial | (simp [AllP, condB]; done) | (simp only [AllP]; and_intros <;> first | trivial | decide | omega) | (simp [AllP, condB]; intros; and_intros <;> first | assumption | omega)
  refine G.ret (endK.ret rfl ?_)
  first | (rw [dip_volume]; done) | (rw [dip_volume]; rfl)
def dip_Check_1 (x0_0 : Int) (x0_1 : Int) : Bool := (((decide (x0_0 < (0 : Int))) || (decide (x0_0 > (200000 : Int)))) || (!(dip_volume x0_1)))
theorem dip_Check_1_any (x0_0 : Int) (x0_1 : Int) (w : World) : Calls Try.prog 55 #[.agg #[I x0_0, I x0_1]] w fun e w' => e = .returned (.bool (dip_Check_1 x0_0 x0_1)) ∧ Below w.heap.size w w' := by
  refine enterPlain tfine Try.func55 rfl 17 Try.ntmps55 [.agg [.k (I x0_0), .k (I x0_1)]] [] rfl rfl trivial ⟨⟨trivial, trivial, trivial⟩, trivial⟩ ?_
  refine G.seqR tfine rfl ?_ ?_
  · first | trivial | (simp [AllP, condB]; done) | (simp only [AllP]; and_intros <;> first | trivial | decide | omega) | (simp [AllP, condB]; intros; and_intros <;> first | assumption | omega)
  refine G.seqC tfine rfl ?_ ?_
  · first | trivial | (simp [AllP, condB]; done) | (simp only [AllP]; and_intros <;> first | trivial | decide | omega) | (simp [AllP, condB]; intros; and_intros <;> first | assumption | omega)
  refine GO.callGuard (.bool (dip_volume x0_1)) rfl rfl rfl (by first | exact trivial | exact ⟨id, trivial⟩ | exact ⟨id, id, trivial⟩ | exact ⟨id, id, id, trivial⟩ | exact ⟨id, id, id, id, trivial⟩) rfl rfl (fun args w => Try.call53 args w) rfl (fun _ m' hle ρ w hs hok => dip_volume_any _ w) ?_
  refine GO.fin tfine rfl ?_ ?_
  · first | trivial | (simp [AllP, condB]; done) | (simp only [AllP]; and_intros <;> first | trivial | decide | omega) | (simp [AllP, condB]; intros; and_intros <;> first | assumption | omega)
  refine G.ret (endK.ret rfl ?_)
  first | (rw [dip_Check_1]; done) | (rw [dip_Check_1]; rfl)
def gauge_Right (x0_0 : Int) (x0_1 : Int) (x0_2 : Int) (x0_3 : Int) (x0_4 : Int) (x0_5 : Int) (x0_6 : Int) (x0_7 : Int) : Bool := ((((((gauge_Check x0_0 x0_1 x0_2 x0_3) == (0 : Int)) && (decide (x0_4 ≥ (0 : Int)))) && (decide (x0_4 ≤ x0_5))) && (decide (x0_5 ≤ (34359738368 : Int)))) && ((x0_6 == ((gauge_times x0_4 x0_5 x0_3).1)) && (x0_7 == ((gauge_times x0_4 x0_5 x0_3).2))))
theorem gauge_Right_any (x0_0 : Int) (x0_1 : Int) (x0_2 : Int) (x0_3 : Int) (x0_4 : Int) (x0_5 : Int) (x0_6 : Int) (x0_7 : Int) (w : World) : Calls Try.prog 18 #[.agg #[I x0_0, I x0_1, I x0_2, I x0_3, I x0_4, I x0_5, I x0_6, I x0_7]] w fun e w' => e = .returned (.bool (gauge_Right x0_0 x0_1 x0_2 x0_3 x0_4 x0_5 x0_6 x0_7)) ∧ Below w.heap.size w w' := by
  refine enterPlain tfine Try.func18 rfl 37 Try.ntmps18 [.agg [.k (I x0_0), .k (I x0_1), .k (I x0_2), .k (I x0_3), .k (I x0_4), .k (I x0_5), .k (I x0_6), .k (I x0_7)]] [] rfl rfl trivial ⟨⟨trivial, trivial, trivial, trivial, trivial, trivial, trivial, trivial, trivial⟩, trivial⟩ ?_
  refine G.seqR tfine rfl ?_ ?_
  · first | trivial | (simp [AllP, condB]; done) | (simp only [AllP]; and_intros <;> first | trivial | decide | omega) | (simp [AllP, condB]; intros; and_intros <;> first | assumption | omega)
  refine G.seqR tfine rfl ?_ ?_
  · first | trivial | (simp [AllP, condB]; done) | (simp only [AllP]; and_intros <;> first | trivial | decide | omega) | (simp [AllP, condB]; intros; and_intros <;> first | assumption | omega)
  refine G.seqDraw hmix [0, 1, 3, 7, 15, 31, 63, 127, 255, 511, 1023, 2047, 1023, 5119, 16383, 32767, 65535, 131071, 262143, 524287, 1048575, 2097151, 4194303, 8388607, 4194303, 4194303, 37748735, 104857599, 255852543, 536870911, 1073741823, 2147483647] [] rfl rfl rfl ?_
  refine GD.more tfine 0 rfl rfl ?_ ?_
  · first | trivial | (simp [AllP, condB]; done) | (simp only [AllP]; and_intros <;> first | trivial | decide | omega) | (simp [AllP, condB]; intros; and_intros <;> first | assumption | omega)
  refine GD.call (v := I (gauge_Check x0_0 x0_1 x0_2 x0_3)) 2 rfl rfl rfl rfl rfl (fun args w => Try.call16 args w) (fun m _ ρ w _ _ => gauge_Check_any _ _ _ _ w) ?_
  refine GD.more tfine 3 rfl rfl ?_ ?_
  · first | trivial | (simp [AllP, condB]; done) | (simp only [AllP]; and_intros <;> first | trivial | decide | omega) | (simp [AllP, condB]; intros; and_intros <;> first | assumption | omega)
  refine GD.callGuard (.agg #[I ((gauge_times x0_4 x0_5 x0_3).1), I ((gauge_times x0_4 x0_5 x0_3).2)]) 28 rfl rfl rfl rfl (by first | exact trivial | exact ⟨id, trivial⟩ | exact ⟨id, id, trivial⟩ | exact ⟨id, id, id, trivial⟩ | exact ⟨id, id, id, id, trivial⟩) rfl rfl (fun args w => Try.call37 args w) rfl (fun _ m _ ρ w _ _ => gauge_times_any _ _ _ w) ?_
  refine GD.structEqG false [I x0_6, I x0_7] [I ((gauge_times x0_4 x0_5 x0_3).1), I ((gauge_times x0_4 x0_5 x0_3).2)] (((x0_6 == ((gauge_times x0_4 x0_5 x0_3).1)) && (x0_7 == ((gauge_times x0_4 x0_5 x0_3).2)))) rfl cmp_api_Bounds 29 rfl rfl rfl rfl (by first | exact trivial | exact ⟨id, trivial⟩ | exact ⟨id, id, trivial⟩) rfl rfl rfl (by kernel_rfl) ?_
  refine GD.fin tfine 30 rfl rfl ?_ ?_
  · first | trivial | (simp [AllP, condB]; done) | (simp only [AllP]; and_intros <;> first | trivial | decide | omega) | (simp [AllP, condB]; intros; and_intros <;> first | assumption | omega)
  refine G.ret (endK.ret rfl ?_)
  first | (rw [gauge_Right]; done) | (rw [gauge_Right]; rfl)
def spileref15_Right (x0_0 : Int) (x0_1 : Int) (x0_2 : Int) (x0_3 : Int) (x0_4 : Int) (x0_5 : Int) (x0_6 : Int) (x0_7 : Int) : Bool := if ((((!(spileref15_IsReading x0_0 x0_1 x0_2 x0_3)) || (decide (x0_4 < (0 : Int)))) || (decide (x0_4 > x0_5))) || (decide (x0_5 > (34359738368 : Int)))) = true then (false) else (((x0_6 == ((spileref15_times x0_4 x0_5 x0_3).1)) && (x0_7 == ((spileref15_times x0_4 x0_5 x0_3).2))))
theorem spileref15_Right_any (x0_0 : Int) (x0_1 : Int) (x0_2 : Int) (x0_3 : Int) (x0_4 : Int) (x0_5 : Int) (x0_6 : Int) (x0_7 : Int) (w : World) : Calls Try.prog 28 #[.agg #[I x0_0, I x0_1, I x0_2, I x0_3, I x0_4, I x0_5, I x0_6, I x0_7]] w fun e w' => e = .returned (.bool (spileref15_Right x0_0 x0_1 x0_2 x0_3 x0_4 x0_5 x0_6 x0_7)) ∧ Below w.heap.size w w' := by
  refine enterPlain tfine Try.func28 rfl 37 Try.ntmps28 [.agg [.k (I x0_0), .k (I x0_1), .k (I x0_2), .k (I x0_3), .k (I x0_4), .k (I x0_5), .k (I x0_6), .k (I x0_7)]] [] rfl rfl trivial ⟨⟨trivial, trivial, trivial, trivial, trivial, trivial, trivial, trivial, trivial⟩, trivial⟩ ?_
  refine G.seqR tfine rfl ?_ ?_
  · first | trivial | (simp [AllP, condB]; done) | (simp only [AllP]; and_intros <;> first | trivial | decide | omega) | (simp [AllP, condB]; intros; and_intros <;> first | assumption | omega)
  refine G.seq ?_
  refine G.seqC tfine rfl ?_ ?_
  · first | trivial | (simp [AllP, condB]; done) | (simp only [AllP]; and_intros <;> first | trivial | decide | omega) | (simp [AllP, condB]; intros; and_intros <;> first | assumption | omega)
  refine GO.callPlain (v := .bool (spileref15_IsReading x0_0 x0_1 x0_2 x0_3))  rfl rfl rfl rfl (fun args w => Try.call39 args w) (fun ρ w hm _ => spileref15_IsReading_any _ _ _ _ w) ?_
  refine GO.fin tfine rfl ?_ ?_
  · first | trivial | (simp [AllP, condB]; done) | (simp only [AllP]; and_intros <;> first | trivial | decide | omega) | (simp [AllP, condB]; intros; and_intros <;> first | assumption | omega)
  refine G.cond rfl (fun h1 => ?_) (fun h1 => ?_)
  · refine G.seqR tfine rfl ?_ ?_
    · first | trivial | (simp [AllP, condB]; done) | (simp only [AllP]; and_intros <;> first | trivial | decide | omega) | (simp [AllP, condB]; intros; and_intros <;> first | assumption | omega)
    refine G.ret (endK.ret rfl ?_)
    first | (rw [spileref15_Right, if_pos h1]; done) | (rw [spileref15_Right, if_pos h1]; rfl)
  refine G.skip ?_
  refine G.seqDraw hmix [0, 1, 0, 4, 0, 16, 48, 124, 255, 511] [] rfl rfl rfl ?_
  refine GD.more tfine 0 rfl rfl ?_ ?_
  · first | trivial | (simp [AllP, condB]; done) | (simp only [AllP]; and_intros <;> first | trivial | decide | omega) | (simp [AllP, condB]; intros; and_intros <;> first | assumption | omega)
  refine GD.call (v := .agg #[I ((spileref15_times x0_4 x0_5 x0_3).1), I ((spileref15_times x0_4 x0_5 x0_3).2)]) 7 rfl rfl rfl rfl rfl (fun args w => Try.call41 args w) (fun m _ ρ w _ _ => spileref15_times_any _ _ _ w) ?_
  refine GD.structEq false [I x0_6, I x0_7] [I ((spileref15_times x0_4 x0_5 x0_3).1), I ((spileref15_times x0_4 x0_5 x0_3).2)] (((x0_6 == ((spileref15_times x0_4 x0_5 x0_3).1)) && (x0_7 == ((spileref15_times x0_4 x0_5 x0_3).2)))) rfl cmp_api_Bounds 8 rfl rfl rfl rfl rfl rfl (by kernel_rfl) ?_
  refine GD.fin tfine 9 rfl rfl ?_ ?_
  · first | trivial | (simp [AllP, condB]; done) | (simp only [AllP]; and_intros <;> first | trivial | decide | omega) | (simp [AllP, condB]; intros; and_intros <;> first | assumption | omega)
  refine G.ret (endK.ret rfl ?_)
  first | (rw [spileref15_Right, if_neg (fne h1)]; done) | (rw [spileref15_Right, if_neg (fne h1)]; rfl)
def gauge_Differ (x0_0 : Int) (x0_1 : Int) (x0_2 : Int) (x0_3 : Int) (x0_4 : Int) (x0_5 : Int) (x0_6 : Int) (x0_7 : Int) (x1 : Int) : Int × Int × Int × Int := if (!(gauge_Right x0_0 x0_1 x0_2 x0_3 x0_4 x0_5 x0_6 x0_7)) = true then ((0 : Int), (0 : Int), (0 : Int), (1 : Int)) else if (!(gauge_in x1 (0 : Int) (343597383680000 : Int))) = true then ((0 : Int), (0 : Int), (0 : Int), (2 : Int)) else if (gauge_in (0 : Int) (IntKind.i64.wrap (x1 - x0_7)) (IntKind.i64.wrap (x1 - x0_6))) = true then (IntKind.i64.wrap (x1 - x0_7), IntKind.i64.wrap (x1 - x0_6), (1 : Int), (0 : Int)) else (IntKind.i64.wrap (x1 - x0_7), IntKind.i64.wrap (x1 - x0_6), (2 : Int), (0 : Int))
theorem gauge_Differ_any (x0_0 : Int) (x0_1 : Int) (x0_2 : Int) (x0_3 : Int) (x0_4 : Int) (x0_5 : Int) (x0_6 : Int) (x0_7 : Int) (x1 : Int) (w : World) : Calls Try.prog 19 #[.agg #[I x0_0, I x0_1, I x0_2, I x0_3, I x0_4, I x0_5, I x0_6, I x0_7], I x1] w fun e w' => e = .returned (.tuple #[.agg #[I ((gauge_Differ x0_0 x0_1 x0_2 x0_3 x0_4 x0_5 x0_6 x0_7 x1).1), I ((gauge_Differ x0_0 x0_1 x0_2 x0_3 x0_4 x0_5 x0_6 x0_7 x1).2.1)], I ((gauge_Differ x0_0 x0_1 x0_2 x0_3 x0_4 x0_5 x0_6 x0_7 x1).2.2.1), I ((gauge_Differ x0_0 x0_1 x0_2 x0_3 x0_4 x0_5 x0_6 x0_7 x1).2.2.2)]) ∧ Below w.heap.size w w' := by
  refine enterPlain tfine Try.func19 rfl 34 Try.ntmps19 [.agg [.k (I x0_0), .k (I x0_1), .k (I x0_2), .k (I x0_3), .k (I x0_4), .k (I x0_5), .k (I x0_6), .k (I x0_7)], .c (.k (I x1))] [] rfl rfl trivial ⟨⟨trivial, trivial, trivial, trivial, trivial, trivial, trivial, trivial, trivial⟩, trivial, trivial⟩ ?_
  refine G.seqR tfine rfl ?_ ?_
  · first | trivial | (simp [AllP, condB]; done) | (simp only [AllP]; and_intros <;> first | trivial | decide | omega) | (simp [AllP, condB]; intros; and_intros <;> first | assumption | omega)
  refine G.seq ?_
  refine G.seqC tfine rfl ?_ ?_
  · first | trivial | (simp [AllP, condB]; done) | (simp only [AllP]; and_intros <;> first | trivial | decide | omega) | (simp [AllP, condB]; intros; and_intros <;> first | assumption | omega)
  refine GO.callPlain (v := .bool (gauge_Right x0_0 x0_1 x0_2 x0_3 x0_4 x0_5 x0_6 x0_7))  rfl rfl rfl rfl (fun args w => Try.call18 args w) (fun ρ w hm _ => gauge_Right_any _ _ _ _ _ _ _ _ w) ?_
  refine GO.fin tfine rfl ?_ ?_
  · first | trivial | (simp [AllP, condB]; done) | (simp only [AllP]; and_intros <;> first | trivial | decide | omega) | (simp [AllP, condB]; intros; and_intros <;> first | assumption | omega)
  refine G.cond rfl (fun h1 => ?_) (fun h1 => ?_)
  · refine G.seqR tfine rfl ?_ ?_
    · first | trivial | (simp [AllP, condB]; done) | (simp only [AllP]; and_intros <;> first | trivial | decide | omega) | (simp [AllP, condB]; intros; and_intros <;> first | assumption | omega)
    refine G.ret (endK.ret rfl ?_)
    first | (rw [gauge_Differ, if_pos h1]; done) | (rw [gauge_Differ, if_pos h1]; rfl)
  refine G.skip ?_
  refine G.seq ?_
  refine G.seqC tfine rfl ?_ ?_
  · first | trivial | (simp [AllP, condB]; done) | (simp only [AllP]; and_intros <;> first | trivial | decide | omega) | (simp [AllP, condB]; intros; and_intros <;> first | assumption | omega)
  refine GO.callPlain (v := .bool (gauge_in x1 (0 : Int) (343597383680000 : Int)))  rfl rfl rfl rfl (fun args w => Try.call35 args w) (fun ρ w hm _ => gauge_in_any _ _ _ w) ?_
  refine GO.fin tfine rfl ?_ ?_
  · first | trivial | (simp [AllP, condB]; done) | (simp only [AllP]; and_intros <;> first | trivial | decide | omega) | (simp [AllP, condB]; intros; and_intros <;> first | assumption | omega)
  refine G.cond rfl (fun h2 => ?_) (fun h2 => ?_)
  · refine G.seqR tfine rfl ?_ ?_
    · first | trivial | (simp [AllP, condB]; done) | (simp only [AllP]; and_intros <;> first | trivial | decide | omega) | (simp [AllP, condB]; intros; and_intros <;> first | assumption | omega)
    refine G.ret (endK.ret rfl ?_)
    first | (rw [gauge_Differ, if_neg (fne h1), if_pos h2]; done) | (rw [gauge_Differ, if_neg (fne h1), if_pos h2]; rfl)
  refine G.skip ?_
  refine G.seqR tfine rfl ?_ ?_
  · first | trivial | (simp [AllP, condB]; done) | (simp only [AllP]; and_intros <;> first | trivial | decide | omega) | (simp [AllP, condB]; intros; and_intros <;> first | assumption | omega)
  refine G.seq ?_
  refine G.seqC tfine rfl ?_ ?_
  · first | trivial | (simp [AllP, condB]; done) | (simp only [AllP]; and_intros <;> first | trivial | decide | omega) | (simp [AllP, condB]; intros; and_intros <;> first | assumption | omega)
  refine GO.callPlain (v := .bool (gauge_in (0 : Int) (IntKind.i64.wrap (x1 - x0_7)) (IntKind.i64.wrap (x1 - x0_6))))  rfl rfl rfl rfl (fun args w => Try.call35 args w) (fun ρ w hm _ => gauge_in_any _ _ _ w) (GO.nil ?_)
  refine G.cond rfl (fun h3 => ?_) (fun h3 => ?_)
  · refine G.seqR tfine rfl ?_ ?_
    · first | trivial | (simp [AllP, condB]; done) | (simp only [AllP]; and_intros <;> first | trivial | decide | omega) | (simp [AllP, condB]; intros; and_intros <;> first | assumption | omega)
    refine G.ret (endK.ret rfl ?_)
    first | (rw [gauge_Differ, if_neg (fne h1), if_neg (fne h2), if_pos h3]; done) | (rw [gauge_Differ, if_neg (fne h1), if_neg (fne h2), if_pos h3]; rfl)
  refine G.skip ?_
  refine G.seqR tfine rfl ?_ ?_
  · first | trivial | (simp [AllP, condB]; done) | (simp only [AllP]; and_intros <;> first | trivial | decide | omega) | (simp [AllP, condB]; intros; and_intros <;> first | assumption | omega)
  refine G.ret (endK.ret rfl ?_)
  first | (rw [gauge_Differ, if_neg (fne h1), if_neg (fne h2), if_neg (fne h3)]; done) | (rw [gauge_Differ, if_neg (fne h1), if_neg (fne h2), if_neg (fne h3)]; rfl)
def spileref15_Differ (x0_0 : Int) (x0_1 : Int) (x0_2 : Int) (x0_3 : Int) (x0_4 : Int) (x0_5 : Int) (x0_6 : Int) (x0_7 : Int) (x1 : Int) : Int × Int × Int × Int := if (!(spileref15_Right x0_0 x0_1 x0_2 x0_3 x0_4 x0_5 x0_6 x0_7)) = true then ((0 : Int), (0 : Int), (0 : Int), (1 : Int)) else if ((decide (x1 < (0 : Int))) || (decide (x1 > (343597383680000 : Int)))) = true then ((0 : Int), (0 : Int), (0 : Int), (2 : Int)) else if ((decide ((IntKind.i64.wrap (x1 - x0_7)) ≤ (0 : Int))) && (decide ((IntKind.i64.wrap (x1 - x0_6)) ≥ (0 : Int)))) = true then (IntKind.i64.wrap (x1 - x0_7), IntKind.i64.wrap (x1 - x0_6), (1 : Int), (0 : Int)) else (IntKind.i64.wrap (x1 - x0_7), IntKind.i64.wrap (x1 - x0_6), (2 : Int), (0 : Int))
theorem spileref15_Differ_any (x0_0 : Int) (x0_1 : Int) (x0_2 : Int) (x0_3 : Int) (x0_4 : Int) (x0_5 : Int) (x0_6 : Int) (x0_7 : Int) (x1 : Int) (w : World) : Calls Try.prog 27 #[.agg #[I x0_0, I x0_1, I x0_2, I x0_3, I x0_4, I x0_5, I x0_6, I x0_7], I x1] w fun e w' => e = .returned (.tuple #[.agg #[I ((spileref15_Differ x0_0 x0_1 x0_2 x0_3 x0_4 x0_5 x0_6 x0_7 x1).1), I ((spileref15_Differ x0_0 x0_1 x0_2 x0_3 x0_4 x0_5 x0_6 x0_7 x1).2.1)], I ((spileref15_Differ x0_0 x0_1 x0_2 x0_3 x0_4 x0_5 x0_6 x0_7 x1).2.2.1), I ((spileref15_Differ x0_0 x0_1 x0_2 x0_3 x0_4 x0_5 x0_6 x0_7 x1).2.2.2)]) ∧ Below w.heap.size w w' := by
  refine enterPlain tfine Try.func27 rfl 40 Try.ntmps27 [.agg [.k (I x0_0), .k (I x0_1), .k (I x0_2), .k (I x0_3), .k (I x0_4), .k (I x0_5), .k (I x0_6), .k (I x0_7)], .c (.k (I x1))] [] rfl rfl trivial ⟨⟨trivial, trivial, trivial, trivial, trivial, trivial, trivial, trivial, trivial⟩, trivial, trivial⟩ ?_
  refine G.seqR tfine rfl ?_ ?_
  · first | trivial | (simp [AllP, condB]; done) | (simp only [AllP]; and_intros <;> first | trivial | decide | omega) | (simp [AllP, condB]; intros; and_intros <;> first | assumption | omega)
  refine G.seq ?_
  refine G.seqC tfine rfl ?_ ?_
  · first | trivial | (simp [AllP, condB]; done) | (simp only [AllP]; and_intros <;> first | trivial | decide | omega) | (simp [AllP, condB]; intros; and_intros <;> first | assumption | omega)
  refine GO.callPlain (v := .bool (spileref15_Right x0_0 x0_1 x0_2 x0_3 x0_4 x0_5 x0_6 x0_7))  rfl rfl rfl rfl (fun args w => Try.call28 args w) (fun ρ w hm _ => spileref15_Right_any _ _ _ _ _ _ _ _ w) ?_
  refine GO.fin tfine rfl ?_ ?_
  · first | trivial | (simp [AllP, condB]; done) | (simp only [AllP]; and_intros <;> first | trivial | decide | omega) | (simp [AllP, condB]; intros; and_intros <;> first | assumption | omega)
  refine G.cond rfl (fun h1 => ?_) (fun h1 => ?_)
  · refine G.seqR tfine rfl ?_ ?_
    · first | trivial | (simp [AllP, condB]; done) | (simp only [AllP]; and_intros <;> first | trivial | decide | omega) | (simp [AllP, condB]; intros; and_intros <;> first | assumption | omega)
    refine G.ret (endK.ret rfl ?_)
    first | (rw [spileref15_Differ, if_pos h1]; done) | (rw [spileref15_Differ, if_pos h1]; rfl)
  refine G.skip ?_
  refine G.seq ?_
  refine G.seqR tfine rfl ?_ ?_
  · first | trivial | (simp [AllP, condB]; done) | (simp only [AllP]; and_intros <;> first | trivial | decide | omega) | (simp [AllP, condB]; intros; and_intros <;> first | assumption | omega)
  refine G.cond rfl (fun h2 => ?_) (fun h2 => ?_)
  · refine G.seqR tfine rfl ?_ ?_
    · first | trivial | (simp [AllP, condB]; done) | (simp only [AllP]; and_intros <;> first | trivial | decide | omega) | (simp [AllP, condB]; intros; and_intros <;> first | assumption | omega)
    refine G.ret (endK.ret rfl ?_)
    first | (rw [spileref15_Differ, if_neg (fne h1), if_pos h2]; done) | (rw [spileref15_Differ, if_neg (fne h1), if_pos h2]; rfl)
  refine G.skip ?_
  refine G.seqR tfine rfl ?_ ?_
  · first | trivial | (simp [AllP, condB]; done) | (simp only [AllP]; and_intros <;> first | trivial | decide | omega) | (simp [AllP, condB]; intros; and_intros <;> first | assumption | omega)
  refine G.seq ?_
  refine G.seqR tfine rfl ?_ ?_
  · first | trivial | (simp [AllP, condB]; done) | (simp only [AllP]; and_intros <;> first | trivial | decide | omega) | (simp [AllP, condB]; intros; and_intros <;> first | assumption | omega)
  refine G.cond rfl (fun h3 => ?_) (fun h3 => ?_)
  · refine G.seqR tfine rfl ?_ ?_
    · first | trivial | (simp [AllP, condB]; done) | (simp only [AllP]; and_intros <;> first | trivial | decide | omega) | (simp [AllP, condB]; intros; and_intros <;> first | assumption | omega)
    refine G.ret (endK.ret rfl ?_)
    first | (rw [spileref15_Differ, if_neg (fne h1), if_neg (fne h2), if_pos h3]; done) | (rw [spileref15_Differ, if_neg (fne h1), if_neg (fne h2), if_pos h3]; rfl)
  refine G.skip ?_
  refine G.seqR tfine rfl ?_ ?_
  · first | trivial | (simp [AllP, condB]; done) | (simp only [AllP]; and_intros <;> first | trivial | decide | omega) | (simp [AllP, condB]; intros; and_intros <;> first | assumption | omega)
  refine G.ret (endK.ret rfl ?_)
  first | (rw [spileref15_Differ, if_neg (fne h1), if_neg (fne h2), if_neg (fne h3)]; done) | (rw [spileref15_Differ, if_neg (fne h1), if_neg (fne h2), if_neg (fne h3)]; rfl)
end Go.Proofs.Ytiicemgngccicaa
