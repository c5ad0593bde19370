/- Chapter 15: the report of a reading, of the program and of the reference. -/
import Derived.Test.YtiicemgngccicaaGaD
set_option linter.unusedVariables false
set_option linter.unusedSimpArgs false
set_option maxRecDepth 8000
set_option maxHeartbeats 1000000
namespace Go.Proofs.Ytiicemgngccicaa
open Go.Sx Go.RowKit
def gauge_Report (l0_0 : List (Int × Int)) (x0_1 : Int) (x1_0 : Int) (x1_1 : Int) (x1_2 : Int) (x1_3 : Int) (x2 : Int) : Int × Int × Int × Int × Int × Int × Int × Int × Int := if ((tabE l0_0 x0_1) != (0 : Int)) = true then ((0 : Int), (0 : Int), (0 : Int), (0 : Int), (0 : Int), (0 : Int), (0 : Int), (0 : Int), (1 : Int)) else if (((((wet3 l0_0 x0_1 x1_1).2.2) != (0 : Int)) || ((gauge_Check x1_0 x1_1 x1_2 x1_3) != (0 : Int))) || (!(gauge_in x2 (0 : Int) (10000 : Int)))) = true then ((0 : Int), (0 : Int), (0 : Int), (0 : Int), (0 : Int), (0 : Int), (0 : Int), (0 : Int), (2 : Int)) else if (((btw3 ((wet3 l0_0 x0_1 x1_1).1) ((wet3 l0_0 x0_1 x1_1).2.1) x1_2 x1_2 x2).2.2) != (0 : Int)) = true then ((0 : Int), (0 : Int), (0 : Int), (0 : Int), (0 : Int), (0 : Int), (0 : Int), (0 : Int), (btw3 ((wet3 l0_0 x0_1 x1_1).1) ((wet3 l0_0 x0_1 x1_1).2.1) x1_2 x1_2 x2).2.2) else (x1_0, x1_1, x1_2, x1_3, (btw3 ((wet3 l0_0 x0_1 x1_1).1) ((wet3 l0_0 x0_1 x1_1).2.1) x1_2 x1_2 x2).1, (btw3 ((wet3 l0_0 x0_1 x1_1).1) ((wet3 l0_0 x0_1 x1_1).2.1) x1_2 x1_2 x2).2.1, (gauge_times ((btw3 ((wet3 l0_0 x0_1 x1_1).1) ((wet3 l0_0 x0_1 x1_1).2.1) x1_2 x1_2 x2).1) ((btw3 ((wet3 l0_0 x0_1 x1_1).1) ((wet3 l0_0 x0_1 x1_1).2.1) x1_2 x1_2 x2).2.1) x1_3).1, (gauge_times ((btw3 ((wet3 l0_0 x0_1 x1_1).1) ((wet3 l0_0 x0_1 x1_1).2.1) x1_2 x1_2 x2).1) ((btw3 ((wet3 l0_0 x0_1 x1_1).1) ((wet3 l0_0 x0_1 x1_1).2.1) x1_2 x1_2 x2).2.1) x1_3).2, (0 : Int))
theorem gauge_Report_any (A0_0 : Option Addr) (c0_0 : Nat) (l0_0 : List (Int × Int)) (x0_1 : Int) (x1_0 : Int) (x1_1 : Int) (x1_2 : Int) (x1_3 : Int) (x2 : Int) (w : World) (hl_l0_0 : RdRow w A0_0 l0_0.length 2 (elM l0_0)) (hm_l0_0 : l0_0.length ≤ 4611686018427387904) : Calls Try.prog 14 #[.agg #[.slice A0_0 l0_0.length c0_0, I x0_1], .agg #[I x1_0, I x1_1, I x1_2, I x1_3], I x2] w fun e w' => e = .returned (.tuple #[.agg #[I ((gauge_Report l0_0 x0_1 x1_0 x1_1 x1_2 x1_3 x2).1), I ((gauge_Report l0_0 x0_1 x1_0 x1_1 x1_2 x1_3 x2).2.1), I ((gauge_Report l0_0 x0_1 x1_0 x1_1 x1_2 x1_3 x2).2.2.1), I ((gauge_Report l0_0 x0_1 x1_0 x1_1 x1_2 x1_3 x2).2.2.2.1), I ((gauge_Report l0_0 x0_1 x1_0 x1_1 x1_2 x1_3 x2).2.2.2.2.1), I ((gauge_Report l0_0 x0_1 x1_0 x1_1 x1_2 x1_3 x2).2.2.2.2.2.1), I ((gauge_Report l0_0 x0_1 x1_0 x1_1 x1_2 x1_3 x2).2.2.2.2.2.2.1), I ((gauge_Report l0_0 x0_1 x1_0 x1_1 x1_2 x1_3 x2).2.2.2.2.2.2.2.1)], I ((gauge_Report l0_0 x0_1 x1_0 x1_1 x1_2 x1_3 x2).2.2.2.2.2.2.2.2)]) ∧ Below w.heap.size w w' := by
  refine enterPlain tfine Try.func14 rfl 57 Try.ntmps14 [.agg [.inp 1000 A0_0 l0_0.length c0_0, .k (I x0_1)], .agg [.k (I x1_0), .k (I x1_1), .k (I x1_2), .k (I x1_3)], .c (.k (I x2))] [⟨1000, A0_0, 2, l0_0.length, elM l0_0⟩] rfl rfl ⟨hl_l0_0, trivial⟩ ⟨⟨.inl ⟨rfl, rfl, rfl⟩, trivial, trivial⟩, ⟨trivial, trivial, trivial, trivial, trivial⟩, trivial, trivial⟩ ?_
  refine G.seqR tfine rfl ?_ ?_
  · first | trivial | (simp [AllP, condB]; done) | (simp only [AllP]; and_intros <;> first | trivial | decide | omega) | (simp [AllP, condB]; intros; and_intros <;> first | assumption | omega)
  refine G.seq ?_
  refine G.seqC tfine rfl ?_ ?_
  · first | trivial | (simp [AllP, condB]; done) | (simp only [AllP]; and_intros <;> first | trivial | decide | omega) | (simp [AllP, condB]; intros; and_intros <;> first | assumption | omega)
  refine GO.callPlain (v := I (tabE l0_0 x0_1))  rfl rfl rfl rfl (fun args w => Try.call34 args w) (fun ρ w hs hok => dipCheck_any A0_0 c0_0 l0_0 _ w (hs.row (cap := c0_0) rfl (hok _ List.mem_cons_self _ List.mem_cons_self)) hm_l0_0) ?_
  refine GO.fin tfine rfl ?_ ?_
  · first | trivial | (simp [AllP, condB]; done) | (simp only [AllP]; and_intros <;> first | trivial | decide | omega) | (simp [AllP, condB]; intros; and_intros <;> first | assumption | omega)
  refine G.cond (b := (tabE l0_0 x0_1) != (0 : Int)) rfl (fun h1 => ?_) (fun h1 => ?_)
  · refine G.seqR tfine rfl ?_ ?_
    · first | trivial | (simp [AllP, condB]; done) | (simp only [AllP]; and_intros <;> first | trivial | decide | omega) | (simp [AllP, condB]; intros; and_intros <;> first | assumption | omega)
    refine G.ret (endK.ret rfl ?_)
    first | (rw [gauge_Report, if_pos h1]; done) | (rw [gauge_Report, if_pos h1]; rfl)
  refine G.skip ?_
  refine G.seqC tfine rfl ?_ ?_
  · first | trivial | (simp [AllP, condB]; done) | (simp only [AllP]; and_intros <;> first | trivial | decide | omega) | (simp [AllP, condB]; intros; and_intros <;> first | assumption | omega)
  refine GO.callPlain (v := .tuple #[.agg #[I ((wet3 l0_0 x0_1 x1_1).1), I ((wet3 l0_0 x0_1 x1_1).2.1)], I ((wet3 l0_0 x0_1 x1_1).2.2)])  rfl rfl rfl rfl (fun args w => Try.call11 args w) (fun ρ w hs hok => wet_any A0_0 c0_0 l0_0 _ _ w (hs.row (cap := c0_0) rfl (hok _ List.mem_cons_self _ List.mem_cons_self)) hm_l0_0) ?_
  refine GO.fin tfine rfl ?_ ?_
  · first | trivial | (simp [AllP, condB]; done) | (simp only [AllP]; and_intros <;> first | trivial | decide | omega) | (simp [AllP, condB]; intros; and_intros <;> first | assumption | omega)
  refine G.seq ?_
  refine G.seqC tfine rfl ?_ ?_
  · first | trivial | (simp [AllP, condB]; done) | (simp only [AllP]; and_intros <;> first | trivial | decide | omega) | (simp [AllP, condB]; intros; and_intros <;> first | assumption | omega)
  refine GO.callGuard (I (gauge_Check x1_0 x1_1 x1_2 x1_3)) rfl rfl rfl (by first | exact trivial | exact ⟨id, trivial⟩ | exact ⟨id, id, trivial⟩ | exact ⟨id, id, id, trivial⟩ | exact ⟨id, id, id, id, trivial⟩) rfl rfl (fun args w => Try.call16 args w) rfl (fun _ m' hle ρ w hs hok => gauge_Check_any _ _ _ _ w) ?_
  refine GO.more tfine rfl ?_ ?_
  · first | trivial | (simp [AllP, condB]; done) | (simp only [AllP]; and_intros <;> first | trivial | decide | omega) | (simp [AllP, condB]; intros; and_intros <;> first | assumption | omega)
  refine GO.callGuard (.bool (gauge_in x2 (0 : Int) (10000 : Int))) rfl rfl rfl (by first | exact trivial | exact ⟨id, trivial⟩ | exact ⟨id, id, trivial⟩ | exact ⟨id, id, id, trivial⟩ | exact ⟨id, id, id, id, trivial⟩) rfl rfl (fun args w => Try.call35 args w) rfl (fun _ m' hle ρ w hs hok => gauge_in_any _ _ _ w) ?_
  refine GO.fin tfine rfl ?_ ?_
  · first | trivial | (simp [AllP, condB]; done) | (simp only [AllP]; and_intros <;> first | trivial | decide | omega) | (simp [AllP, condB]; intros; and_intros <;> first | assumption | omega)
  refine G.cond (b := ((((wet3 l0_0 x0_1 x1_1).2.2) != (0 : Int)) || ((gauge_Check x1_0 x1_1 x1_2 x1_3) != (0 : Int))) || (!(gauge_in x2 (0 : Int) (10000 : Int)))) rfl (fun h2 => ?_) (fun h2 => ?_)
  · refine G.seqR tfine rfl ?_ ?_
    · first | trivial | (simp [AllP, condB]; done) | (simp only [AllP]; and_intros <;> first | trivial | decide | omega) | (simp [AllP, condB]; intros; and_intros <;> first | assumption | omega)
    refine G.ret (endK.ret rfl ?_)
    first | (rw [gauge_Report, if_neg (fne h1), if_pos h2]; done) | (rw [gauge_Report, if_neg (fne h1), if_pos h2]; rfl)
  refine G.skip ?_
  refine G.seqC tfine rfl ?_ ?_
  · first | trivial | (simp [AllP, condB]; done) | (simp only [AllP]; and_intros <;> first | trivial | decide | omega) | (simp [AllP, condB]; intros; and_intros <;> first | assumption | omega)
  refine GO.callPlain (v := .tuple #[.agg #[I ((btw3 ((wet3 l0_0 x0_1 x1_1).1) ((wet3 l0_0 x0_1 x1_1).2.1) x1_2 x1_2 x2).1), I ((btw3 ((wet3 l0_0 x0_1 x1_1).1) ((wet3 l0_0 x0_1 x1_1).2.1) x1_2 x1_2 x2).2.1)], I ((btw3 ((wet3 l0_0 x0_1 x1_1).1) ((wet3 l0_0 x0_1 x1_1).2.1) x1_2 x1_2 x2).2.2)])  rfl rfl rfl rfl (fun args w => Try.call36 args w) (fun ρ w hs hok => between_any _ _ _ _ _ w) ?_
  refine GO.fin tfine rfl ?_ ?_
  · first | trivial | (simp [AllP, condB]; done) | (simp only [AllP]; and_intros <;> first | trivial | decide | omega) | (simp [AllP, condB]; intros; and_intros <;> first | assumption | omega)
  refine G.seq ?_
  refine G.seqR tfine rfl ?_ ?_
  · first | trivial | (simp [AllP, condB]; done) | (simp only [AllP]; and_intros <;> first | trivial | decide | omega) | (simp [AllP, condB]; intros; and_intros <;> first | assumption | omega)
  refine G.cond (b := ((btw3 ((wet3 l0_0 x0_1 x1_1).1) ((wet3 l0_0 x0_1 x1_1).2.1) x1_2 x1_2 x2).2.2) != (0 : Int)) rfl (fun h3 => ?_) (fun h3 => ?_)
  · refine G.seqR tfine rfl ?_ ?_
    · first | trivial | (simp [AllP, condB]; done) | (simp only [AllP]; and_intros <;> first | trivial | decide | omega) | (simp [AllP, condB]; intros; and_intros <;> first | assumption | omega)
    refine G.ret (endK.ret rfl ?_)
    first | (rw [gauge_Report, if_neg (fne h1), if_neg (fne h2), if_pos h3]; done) | (rw [gauge_Report, if_neg (fne h1), if_neg (fne h2), if_pos h3]; rfl)
  refine G.skip ?_
  refine G.seqDraw hmix [0, 0, 0, 0, 8, 28, 63, 127, 255] [(7, 6)] rfl rfl rfl ?_
  refine GD.more tfine 0 rfl rfl ?_ ?_
  · first | trivial | (simp [AllP, condB]; done) | (simp only [AllP]; and_intros <;> first | trivial | decide | omega) | (simp [AllP, condB]; intros; and_intros <;> first | assumption | omega)
  refine GD.call (v := .agg #[I ((gauge_times ((btw3 ((wet3 l0_0 x0_1 x1_1).1) ((wet3 l0_0 x0_1 x1_1).2.1) x1_2 x1_2 x2).1) ((btw3 ((wet3 l0_0 x0_1 x1_1).1) ((wet3 l0_0 x0_1 x1_1).2.1) x1_2 x1_2 x2).2.1) x1_3).1), I ((gauge_times ((btw3 ((wet3 l0_0 x0_1 x1_1).1) ((wet3 l0_0 x0_1 x1_1).2.1) x1_2 x1_2 x2).1) ((btw3 ((wet3 l0_0 x0_1 x1_1).1) ((wet3 l0_0 x0_1 x1_1).2.1) x1_2 x1_2 x2).2.1) x1_3).2)]) 5 rfl rfl rfl rfl rfl (fun args w => Try.call37 args w) (fun m hle ρ w hs hok => gauge_times_any _ _ _ w) ?_
  refine GD.fin tfine 6 rfl rfl ?_ ?_
  · first | trivial | (simp [AllP, condB]; done) | (simp only [AllP]; and_intros <;> first | trivial | decide | omega) | (simp [AllP, condB]; intros; and_intros <;> first | assumption | omega)
  refine G.ret (endK.ret rfl ?_)
  first | (rw [gauge_Report, if_neg (fne h1), if_neg (fne h2), if_neg (fne h3)]; done) | (rw [gauge_Report, if_neg (fne h1), if_neg (fne h2), if_neg (fne h3)]; rfl)
def spileref15_Report (l0_0 : List (Int × Int)) (x0_1 : Int) (x1_0 : Int) (x1_1 : Int) (x1_2 : Int) (x1_3 : Int) (x2 : Int) : Int × Int × Int × Int × Int × Int × Int × Int × Int := if ((tabE l0_0 x0_1) != (0 : Int)) = true then ((0 : Int), (0 : Int), (0 : Int), (0 : Int), (0 : Int), (0 : Int), (0 : Int), (0 : Int), (1 : Int)) else if (((!(spileref15_IsReading x1_0 x1_1 x1_2 x1_3)) || (((spileref05_Factor x2 x1_2).2) != (0 : Int))) || (((wet3 l0_0 x0_1 x1_1).2.2) != (0 : Int))) = true then ((0 : Int), (0 : Int), (0 : Int), (0 : Int), (0 : Int), (0 : Int), (0 : Int), (0 : Int), (2 : Int)) else (x1_0, x1_1, x1_2, x1_3, (btw3 ((wet3 l0_0 x0_1 x1_1).1) ((wet3 l0_0 x0_1 x1_1).2.1) x1_2 x1_2 x2).1, (btw3 ((wet3 l0_0 x0_1 x1_1).1) ((wet3 l0_0 x0_1 x1_1).2.1) x1_2 x1_2 x2).2.1, (spileref15_times ((btw3 ((wet3 l0_0 x0_1 x1_1).1) ((wet3 l0_0 x0_1 x1_1).2.1) x1_2 x1_2 x2).1) ((btw3 ((wet3 l0_0 x0_1 x1_1).1) ((wet3 l0_0 x0_1 x1_1).2.1) x1_2 x1_2 x2).2.1) x1_3).1, (spileref15_times ((btw3 ((wet3 l0_0 x0_1 x1_1).1) ((wet3 l0_0 x0_1 x1_1).2.1) x1_2 x1_2 x2).1) ((btw3 ((wet3 l0_0 x0_1 x1_1).1) ((wet3 l0_0 x0_1 x1_1).2.1) x1_2 x1_2 x2).2.1) x1_3).2, (0 : Int))
theorem spileref15_Report_any (A0_0 : Option Addr) (c0_0 : Nat) (l0_0 : List (Int × Int)) (x0_1 : Int) (x1_0 : Int) (x1_1 : Int) (x1_2 : Int) (x1_3 : Int) (x2 : Int) (w : World) (hl_l0_0 : RdRow w A0_0 l0_0.length 2 (elM l0_0)) (hm_l0_0 : l0_0.length ≤ 4611686018427387904) : Calls Try.prog 15 #[.agg #[.slice A0_0 l0_0.length c0_0, I x0_1], .agg #[I x1_0, I x1_1, I x1_2, I x1_3], I x2] w fun e w' => e = .returned (.tuple #[.agg #[I ((spileref15_Report l0_0 x0_1 x1_0 x1_1 x1_2 x1_3 x2).1), I ((spileref15_Report l0_0 x0_1 x1_0 x1_1 x1_2 x1_3 x2).2.1), I ((spileref15_Report l0_0 x0_1 x1_0 x1_1 x1_2 x1_3 x2).2.2.1), I ((spileref15_Report l0_0 x0_1 x1_0 x1_1 x1_2 x1_3 x2).2.2.2.1), I ((spileref15_Report l0_0 x0_1 x1_0 x1_1 x1_2 x1_3 x2).2.2.2.2.1), I ((spileref15_Report l0_0 x0_1 x1_0 x1_1 x1_2 x1_3 x2).2.2.2.2.2.1), I ((spileref15_Report l0_0 x0_1 x1_0 x1_1 x1_2 x1_3 x2).2.2.2.2.2.2.1), I ((spileref15_Report l0_0 x0_1 x1_0 x1_1 x1_2 x1_3 x2).2.2.2.2.2.2.2.1)], I ((spileref15_Report l0_0 x0_1 x1_0 x1_1 x1_2 x1_3 x2).2.2.2.2.2.2.2.2)]) ∧ Below w.heap.size w w' := by
  refine enterPlain tfine Try.func15 rfl 62 Try.ntmps15 [.agg [.inp 1000 A0_0 l0_0.length c0_0, .k (I x0_1)], .agg [.k (I x1_0), .k (I x1_1), .k (I x1_2), .k (I x1_3)], .c (.k (I x2))] [⟨1000, A0_0, 2, l0_0.length, elM l0_0⟩] rfl rfl ⟨hl_l0_0, trivial⟩ ⟨⟨.inl ⟨rfl, rfl, rfl⟩, trivial, trivial⟩, ⟨trivial, trivial, trivial, trivial, trivial⟩, trivial, trivial⟩ ?_
  refine G.seqR tfine rfl ?_ ?_
  · first | trivial | (simp [AllP, condB]; done) | (simp only [AllP]; and_intros <;> first | trivial | decide | omega) | (simp [AllP, condB]; intros; and_intros <;> first | assumption | omega)
  refine G.seq ?_
  refine G.seqC tfine rfl ?_ ?_
  · first | trivial | (simp [AllP, condB]; done) | (simp only [AllP]; and_intros <;> first | trivial | decide | omega) | (simp [AllP, condB]; intros; and_intros <;> first | assumption | omega)
  refine GO.callPlain (v := I (tabE l0_0 x0_1))  rfl rfl rfl rfl (fun args w => Try.call33 args w) (fun ρ w hs hok => ref13Check_any A0_0 c0_0 l0_0 _ w (hs.row (cap := c0_0) rfl (hok _ List.mem_cons_self _ List.mem_cons_self)) hm_l0_0) ?_
  refine GO.fin tfine rfl ?_ ?_
  · first | trivial | (simp [AllP, condB]; done) | (simp only [AllP]; and_intros <;> first | trivial | decide | omega) | (simp [AllP, condB]; intros; and_intros <;> first | assumption | omega)
  refine G.cond (b := (tabE l0_0 x0_1) != (0 : Int)) rfl (fun h1 => ?_) (fun h1 => ?_)
  · refine G.seqR tfine rfl ?_ ?_
    · first | trivial | (simp [AllP, condB]; done) | (simp only [AllP]; and_intros <;> first | trivial | decide | omega) | (simp [AllP, condB]; intros; and_intros <;> first | assumption | omega)
    refine G.ret (endK.ret rfl ?_)
    first | (rw [spileref15_Report, if_pos h1]; done) | (rw [spileref15_Report, if_pos h1]; rfl)
  refine G.skip ?_
  refine G.seqC tfine rfl ?_ ?_
  · first | trivial | (simp [AllP, condB]; done) | (simp only [AllP]; and_intros <;> first | trivial | decide | omega) | (simp [AllP, condB]; intros; and_intros <;> first | assumption | omega)
  refine GO.callPlain (v := .tuple #[.agg #[I ((wet3 l0_0 x0_1 x1_1).1), I ((wet3 l0_0 x0_1 x1_1).2.1)], I ((wet3 l0_0 x0_1 x1_1).2.2)])  rfl rfl rfl rfl (fun args w => Try.call13 args w) (fun ρ w hs hok => refWet_any A0_0 c0_0 l0_0 _ _ w (hs.row (cap := c0_0) rfl (hok _ List.mem_cons_self _ List.mem_cons_self)) hm_l0_0) ?_
  refine GO.fin tfine rfl ?_ ?_
  · first | trivial | (simp [AllP, condB]; done) | (simp only [AllP]; and_intros <;> first | trivial | decide | omega) | (simp [AllP, condB]; intros; and_intros <;> first | assumption | omega)
  refine G.seq ?_
  refine G.seqC tfine rfl ?_ ?_
  · first | trivial | (simp [AllP, condB]; done) | (simp only [AllP]; and_intros <;> first | trivial | decide | omega) | (simp [AllP, condB]; intros; and_intros <;> first | assumption | omega)
  refine GO.callPlain (v := .tuple #[I ((spileref05_Factor x2 x1_2).1), I ((spileref05_Factor x2 x1_2).2)])  rfl rfl rfl rfl (fun args w => Try.call38 args w) (fun ρ w hs hok => spileref05_Factor_any _ _ w) ?_
  refine GO.fin tfine rfl ?_ ?_
  · first | trivial | (simp [AllP, condB]; done) | (simp only [AllP]; and_intros <;> first | trivial | decide | omega) | (simp [AllP, condB]; intros; and_intros <;> first | assumption | omega)
  refine G.seqC tfine rfl ?_ ?_
  · first | trivial | (simp [AllP, condB]; done) | (simp only [AllP]; and_intros <;> first | trivial | decide | omega) | (simp [AllP, condB]; intros; and_intros <;> first | assumption | omega)
  refine GO.callPlain (v := .bool (spileref15_IsReading x1_0 x1_1 x1_2 x1_3))  rfl rfl rfl rfl (fun args w => Try.call39 args w) (fun ρ w hs hok => spileref15_IsReading_any _ _ _ _ w) ?_
  refine GO.fin tfine rfl ?_ ?_
  · first | trivial | (simp [AllP, condB]; done) | (simp only [AllP]; and_intros <;> first | trivial | decide | omega) | (simp [AllP, condB]; intros; and_intros <;> first | assumption | omega)
  refine G.cond (b := ((!(spileref15_IsReading x1_0 x1_1 x1_2 x1_3)) || (((spileref05_Factor x2 x1_2).2) != (0 : Int))) || (((wet3 l0_0 x0_1 x1_1).2.2) != (0 : Int))) rfl (fun h2 => ?_) (fun h2 => ?_)
  · refine G.seqR tfine rfl ?_ ?_
    · first | trivial | (simp [AllP, condB]; done) | (simp only [AllP]; and_intros <;> first | trivial | decide | omega) | (simp [AllP, condB]; intros; and_intros <;> first | assumption | omega)
    refine G.ret (endK.ret rfl ?_)
    first | (rw [spileref15_Report, if_neg (fne h1), if_pos h2]; done) | (rw [spileref15_Report, if_neg (fne h1), if_pos h2]; rfl)
  refine G.skip ?_
  refine G.seqC tfine rfl ?_ ?_
  · first | trivial | (simp [AllP, condB]; done) | (simp only [AllP]; and_intros <;> first | trivial | decide | omega) | (simp [AllP, condB]; intros; and_intros <;> first | assumption | omega)
  refine GO.callPlain (v := .tuple #[.agg #[I ((btw3 ((wet3 l0_0 x0_1 x1_1).1) ((wet3 l0_0 x0_1 x1_1).2.1) x1_2 x1_2 x2).1), I ((btw3 ((wet3 l0_0 x0_1 x1_1).1) ((wet3 l0_0 x0_1 x1_1).2.1) x1_2 x1_2 x2).2.1)], I ((btw3 ((wet3 l0_0 x0_1 x1_1).1) ((wet3 l0_0 x0_1 x1_1).2.1) x1_2 x1_2 x2).2.2)])  rfl rfl rfl rfl (fun args w => Try.call40 args w) (fun ρ w hs hok => refBetween_any _ _ _ _ _ w) ?_
  refine GO.fin tfine rfl ?_ ?_
  · first | trivial | (simp [AllP, condB]; done) | (simp only [AllP]; and_intros <;> first | trivial | decide | omega) | (simp [AllP, condB]; intros; and_intros <;> first | assumption | omega)
  refine G.seqDraw hmix [0, 0, 0, 0, 8, 28, 63, 127, 255] [(7, 6)] rfl rfl rfl ?_
  refine GD.more tfine 0 rfl rfl ?_ ?_
  · first | trivial | (simp [AllP, condB]; done) | (simp only [AllP]; and_intros <;> first | trivial | decide | omega) | (simp [AllP, condB]; intros; and_intros <;> first | assumption | omega)
  refine GD.call (v := .agg #[I ((spileref15_times ((btw3 ((wet3 l0_0 x0_1 x1_1).1) ((wet3 l0_0 x0_1 x1_1).2.1) x1_2 x1_2 x2).1) ((btw3 ((wet3 l0_0 x0_1 x1_1).1) ((wet3 l0_0 x0_1 x1_1).2.1) x1_2 x1_2 x2).2.1) x1_3).1), I ((spileref15_times ((btw3 ((wet3 l0_0 x0_1 x1_1).1) ((wet3 l0_0 x0_1 x1_1).2.1) x1_2 x1_2 x2).1) ((btw3 ((wet3 l0_0 x0_1 x1_1).1) ((wet3 l0_0 x0_1 x1_1).2.1) x1_2 x1_2 x2).2.1) x1_3).2)]) 5 rfl rfl rfl rfl rfl (fun args w => Try.call41 args w) (fun m hle ρ w hs hok => spileref15_times_any _ _ _ w) ?_
  refine GD.fin tfine 6 rfl rfl ?_ ?_
  · first | trivial | (simp [AllP, condB]; done) | (simp only [AllP]; and_intros <;> first | trivial | decide | omega) | (simp [AllP, condB]; intros; and_intros <;> first | assumption | omega)
  refine G.ret (endK.ret rfl ?_)
  first | (rw [spileref15_Report, if_neg (fne h1), if_neg (fne h2)]; done) | (rw [spileref15_Report, if_neg (fne h1), if_neg (fne h2)]; rfl)
def spileref13_Few (l0_0 : List (Int × Int)) (x0_1 : Int) : Bool := (decide ((l0_0.length : Int) ≤ (129 : Int)))
theorem spileref13_Few_any (A0_0 : Option Addr) (c0_0 : Nat) (l0_0 : List (Int × Int)) (x0_1 : Int) (w : World) (hl_l0_0 : RdRow w A0_0 l0_0.length 2 (elM l0_0)) (hm_l0_0 : l0_0.length ≤ 4611686018427387904) : Calls Try.prog 10 #[.agg #[.slice A0_0 l0_0.length c0_0, I x0_1]] w fun e w' => e = .returned (.bool (spileref13_Few l0_0 x0_1)) ∧ Below w.heap.size w w' := by
  refine enterPlain tfine Try.func10 rfl 7 Try.ntmps10 [.agg [.inp 1000 A0_0 l0_0.length c0_0, .k (I x0_1)]] [⟨1000, A0_0, 2, l0_0.length, elM l0_0⟩] rfl rfl ⟨hl_l0_0, trivial⟩ ⟨⟨.inl ⟨rfl, rfl, rfl⟩, trivial, trivial⟩, trivial⟩ ?_
  refine G.seqR tfine rfl ?_ ?_
  · first | trivial | (simp [AllP, condB]; done) | (simp only [AllP]; and_intros <;> first | trivial | decide | omega) | (simp [AllP, condB]; intros; and_intros <;> first | assumption | omega)
  refine G.seqR tfine rfl ?_ ?_
  · first | trivial | (simp [AllP, condB]; done) | (simp only [AllP]; and_intros <;> first | trivial | decide | omega) | (simp [AllP, condB]; intros; and_intros <;> first | assumption | omega)
  refine G.ret (endK.ret rfl ?_)
  first | (rw [spileref13_Few]; done) | (rw [spileref13_Few]; rfl)
def gauge_Together_2 (x0_0 : Int) (x0_1 : Int) (x1_0 : Int) (x1_1 : Int) : Int × Int := (if x1_0 > x0_0 then x1_0 else x0_0, if x1_1 < x0_1 then x1_1 else x0_1)
theorem gauge_Together_2_any (x0_0 : Int) (x0_1 : Int) (x1_0 : Int) (x1_1 : Int) (w : World) : Calls Try.prog 44 #[.agg #[I x0_0, I x0_1], .agg #[I x1_0, I x1_1]] w fun e w' => e = .returned (.agg #[I ((gauge_Together_2 x0_0 x0_1 x1_0 x1_1).1), I ((gauge_Together_2 x0_0 x0_1 x1_0 x1_1).2)]) ∧ Below w.heap.size w w' := by
  refine enterPlain tfine Try.func44 rfl 16 Try.ntmps44 [.agg [.k (I x0_0), .k (I x0_1)], .agg [.k (I x1_0), .k (I x1_1)]] [] rfl rfl trivial ⟨⟨trivial, trivial, trivial⟩, ⟨trivial, trivial, trivial⟩, trivial⟩ ?_
  refine G.seqR tfine rfl ?_ ?_
  · first | trivial | (simp [AllP, condB]; done) | (simp only [AllP]; and_intros <;> first | trivial | decide | omega) | (simp [AllP, condB]; intros; and_intros <;> first | assumption | omega)
  refine G.seqR tfine rfl ?_ ?_
  · first | trivial | (simp [AllP, condB]; done) | (simp only [AllP]; and_intros <;> first | trivial | decide | omega) | (simp [AllP, condB]; intros; and_intros <;> first | assumption | omega)
  refine G.ret (endK.ret rfl ?_)
  first | (rw [gauge_Together_2]; done) | (rw [gauge_Together_2]; rfl)
def gauge_Total_1 (x0_0 : Int) (x0_1 : Int) (x1_0 : Int) (x1_1 : Int) : Int × Int := (IntKind.i64.wrap (x0_0 + x1_0), IntKind.i64.wrap (x0_1 + x1_1))
theorem gauge_Total_1_any (x0_0 : Int) (x0_1 : Int) (x1_0 : Int) (x1_1 : Int) (w : World) : Calls Try.prog 48 #[.agg #[I x0_0, I x0_1], .agg #[I x1_0, I x1_1]] w fun e w' => e = .returned (.agg #[I ((gauge_Total_1 x0_0 x0_1 x1_0 x1_1).1), I ((gauge_Total_1 x0_0 x0_1 x1_0 x1_1).2)]) ∧ Below w.heap.size w w' := by
  refine enterPlain tfine Try.func48 rfl 16 Try.ntmps48 [.agg [.k (I x0_0), .k (I x0_1)], .agg [.k (I x1_0), .k (I x1_1)]] [] rfl rfl trivial ⟨⟨trivial, trivial, trivial⟩, ⟨trivial, trivial, trivial⟩, trivial⟩ ?_
  refine G.seqR tfine rfl ?_ ?_
  · first | trivial | (simp [AllP, condB]; done) | (simp only [AllP]; and_intros <;> first | trivial | decide | omega) | (simp [AllP, condB]; intros; and_intros <;> first | assumption | omega)
  refine G.seqR tfine rfl ?_ ?_
  · first | trivial | (simp [AllP, condB]; done) | (simp only [AllP]; and_intros <;> first | trivial | decide | omega) | (simp [AllP, condB]; intros; and_intros <;> first | assumption | omega)
  refine G.ret (endK.ret rfl ?_)
  first | (rw [gauge_Total_1]; done) | (rw [gauge_Total_1]; rfl)
end Go.Proofs.Ytiicemgngccicaa
