/- Chapter 27: the law of Verify for every argument. -/
import Derived.Test.YtafhnfcahhlanaaLB5
/- Chapter 27: the reference's conditions of the numbers. -/
set_option linter.unusedVariables false
set_option linter.unusedSimpArgs false
set_option maxRecDepth 8000
set_option maxHeartbeats 2000000
namespace Go.Proofs.Ytafhnfcahhlanaa
open Go.Sx Go.RowKit
theorem apRe : ApT Try.prog 70 106 2 32 (.agg #[.slice none 0 0, I 0]) := ⟨by kernel_rfl, by kernel_rfl, rfl, by decide⟩
/-- A slice of numbers that is not older than a mark. -/
def newI (lo : Nat) (l : List Int) (v : Value) (w : World) : Prop := RdV w v l.length 1 (elI l) ∧ ∀ k, sb v k → lo ≤ k
theorem newI_steady {lo : Nat} {l : List Int} {v : Value} : Steady (sb v) (newI lo l v) := fun w1 w2 h1 h2 h => ⟨steady_rdv w1 w2 h1 h2 h.1, h.2⟩
theorem newI.ints {lo : Nat} {l : List Int} {v : Value} {w : World} (h : newI lo l v w) : IntsAt w v l := by
  obtain ⟨⟨A, c, e, h1, h2⟩, _⟩ := h
  exact ⟨A, c, e, h1, h2⟩
theorem snoc_sbV {SR : Nat → Prop} {us : Nat → Value} {v : Value} {i : Nat} (h : ∀ j, j < i → ∀ k, sb (us j) k → SR k) : ∀ j, j < i + 1 → ∀ k, sb ((fun j => if j = i then v else us j) j) k → SR k ∨ sb v k := fun j hj k hk => by
  by_cases e : j = i
  · simp only [if_pos e] at hk
    exact .inr hk
  · simp only [if_neg e] at hk
    exact .inl (h j (by omega) k hk)
theorem neg1 (x : Int) : W (W (0 - 1) * x) = W (0 - x) := by
  rw [show W (0 - 1) = -1 from IntWalk.i64_in (0 - 1) (by decide)]
  congr 1
  omega
theorem refMinusC {A : Option Addr} {c0 : Nat} {l : List Int} {w : World} (lo : Nat) (hlo : lo ≤ w.heap.size) (hA : RdRow w A l.length 1 (elI l)) (hn : l.length ≤ 100000) :
    Calls Try.prog 46 #[.slice A l.length c0] w fun e w' => ∃ u : Cho, e = .returned (slV l.length u) ∧ Below w.heap.size w w' ∧ newI lo (negW l) (slV l.length u) w' ∧ (∀ k, sb (slV l.length u) k → w.heap.size ≤ k ∧ k < w'.heap.size) ∧ Steady (sb (slV l.length u)) (newI lo (negW l) (slV l.length u)) := by
  refine (refMinus_any A c0 l w hA hn).mono ?_
  rintro e w' ⟨h, hb⟩
  obtain ⟨A1, c1, rfl, hc, hr⟩ := h.row
  have hs := rdNew_sb hr (c := c1)
  refine ⟨(.slice A1 l.length c1, fun _ => False), by rw [slV_eq hc], hb, ?_, by rw [slV_eq hc]; exact hs, newI_steady⟩
  rw [slV_eq hc]
  exact ⟨⟨A1, c1, by rw [negW_len], by rw [negW_len]; exact hr.rd, fun _ => by rw [negW_len]; exact hc⟩, fun k hk => Nat.le_trans hlo (hs k hk).1⟩
theorem refUnitC {n i : Nat} {w : World} (lo : Nat) (hlo : lo ≤ w.heap.size) (hi : i < n) (hn : n ≤ 1000000) :
    Calls Try.prog 86 #[I n, I i] w fun e w' => ∃ u : Cho, e = .returned (.agg #[slV n u, I 0]) ∧ Below w.heap.size w w' ∧ newI lo (unitL n i) (slV n u) w' ∧ (∀ k, sb (slV n u) k → w.heap.size ≤ k ∧ k < w'.heap.size) ∧ Steady (sb (slV n u)) (newI lo (unitL n i) (slV n u)) := by
  refine (refUnit_any n i w hi hn).mono ?_
  rintro e w' ⟨h, hb⟩
  obtain ⟨A1, c1, rfl, hc, hr⟩ := h.rat
  have hs := rdNew_sb hr (c := c1)
  refine ⟨(.slice A1 n c1, fun _ => False), by rw [slV_eq hc], hb, ?_, by rw [slV_eq hc]; exact hs, newI_steady⟩
  rw [slV_eq hc]
  exact ⟨⟨A1, c1, by rw [unitL_len], by rw [unitL_len]; exact hr.rd, fun _ => by rw [unitL_len]; exact hc⟩, fun k hk => Nat.le_trans hlo (hs k hk).1⟩
theorem refPrimal_any (p : Prob) (pv : Value) (vs0 : Nat → Value) (n : Nat) (w : World) (hp : ProbAt w pv p vs0) (hn : p.obj.length = n + 1) (h1 : n + 1 ≤ 1000) (h2 : p.rows.length ≤ 1000) (h3 : p.lim.length = p.rows.length) (h4 : ∀ r ∈ p.rows, r.length = n + 1) :
    Calls Try.prog 42 #[pv] w fun e w' => ConsA (primalM p 1) w w' e := by
  obtain ⟨ov, rv, lv, rfl, ⟨Ao, co, rfl, ho, _⟩, ⟨Ar, cr, rfl, hr, _, hri⟩, ⟨Al, cl, rfl, hl, _⟩⟩ := hp
  rw [hn] at ho ⊢
  obtain ⟨L, hL⟩ : ∃ L, L = primalM p 1 := ⟨_, rfl⟩
  rw [← hL]
  have hLl : L.length = p.rows.length + (n + 1) := by rw [hL, primalM_len, hn]; omega
  have hLlo : ∀ i, i < n + 1 → cAt L i = (unitL (n + 1) i, 0) := fun i hi => by rw [hL, primalM_lo p 1 i (by omega), hn]
  have hLhi : ∀ i, i < p.rows.length → cAt L (i + (n + 1)) = negRow p 1 i := fun i hi => by rw [hL, ← hn]; exact primalM_hi p 1 i hi
  refine enterIn _ Try.func42 rfl 46 Try.ntmps42 [.agg [.inp 1000 Ao (n + 1) co, .inp 1001 Ar p.rows.length cr, .inp 1002 Al p.lim.length cl]] [⟨1000, Ao, 1, n + 1, elI p.obj⟩, ⟨1001, Ar, 1, p.rows.length, fun i => [vs0 i]⟩, ⟨1002, Al, 1, p.lim.length, elI p.lim⟩] rfl rfl ⟨ho, hr, hl, trivial⟩
    ⟨⟨.inl ⟨rfl, rfl, rfl⟩, .inr ⟨nx rfl, .inl ⟨rfl, rfl, rfl⟩⟩, .inr ⟨nx rfl, .inr ⟨nx rfl, .inl ⟨rfl, rfl, rfl⟩⟩⟩, trivial⟩, trivial⟩ ?_
  refine G.seqR tfine rfl trivial ?_
  refine G.seqC tfine rfl trivial ?_
  refine GO.emptySliceS tfine rfl rfl rfl rfl rfl rfl rfl fun A0 hA0 => ?_
  refine GO.fin tfine rfl trivial ?_
  refine G.seq ?_
  refine G.seqR tfine rfl trivial ?_
  refine G.newNil 21 2 (fun j => [undef, I (cAt L j).2]) rfl ?_
  refine G.tellF 839 (fun w => ∀ j, j < 0 → IntsAt w undef (cAt L j).1) (fun w j hj => by omega) rfl ?_
  refine G.block (G.loop (fun z : Nat × Nat × (Nat → Value) × (Nat → Prop) => St.of [(1, .v (.c (.ptr 1 0 0 0))), (3, .v (.c (accVA A0 21 2 z.1 z.2.1))), (4, .v (.c (.k (I z.1))))]
      [(1, .var 25 [.inp 1000 Ao (n + 1) co, .inp 1001 Ar p.rows.length cr, .inp 1002 Al p.lim.length cl]), (21, accB 106 2 z.1 z.2.1 (fun j => [z.2.2.1 j, I (cAt L j).2])), (839, .say z.2.2.2 (fun w => ∀ j, j < z.1 → IntsAt w (z.2.2.1 j) (cAt L j).1)), (1000, .ro 1 (n + 1) (elI p.obj)), (1001, .ro 1 p.rows.length (fun i => [vs0 i])), (1002, .ro 1 p.lim.length (elI p.lim))])
    (fun z => z.1 ≤ n + 1 ∧ z.1 ≤ z.2.1 ∧ (∀ k, z.2.2.2 k → w.heap.size ≤ k) ∧ ∀ j, j < z.1 → ∀ k, sb (z.2.2.1 j) k → z.2.2.2 k) (fun z => n + 1 - z.1) (0, 0, (fun _ => undef), fun _ => False) ⟨Nat.zero_le _, Nat.le_refl _, fun k hk => hk.elim, fun j hj => absurd hj (Nat.not_lt_zero j)⟩ (St.le_of rfl ⟨⟨_, rfl, Blk.le_refl _⟩, ⟨_, rfl, Blk.le_refl _⟩, ⟨_, rfl, Blk.le_refl _⟩, ⟨_, rfl, Blk.le_refl _⟩, ⟨_, rfl, Blk.le_refl _⟩, ⟨_, rfl, Blk.le_refl _⟩, trivial⟩ ⟨rfl, rfl, rfl, trivial⟩) ?_)
  rintro ⟨i, cp, us, SR⟩ ⟨hi, hcp, hSR, hU⟩
  simp only at hi hcp hSR hU
  refine G.seq ?_
  refine G.seqR tfine rfl trivial ?_
  refine G.cond (b := decide ((i : Int) < ((n + 1 : Nat) : Int))) rfl (fun h5 => ?_) (fun h5 => ?_)
  · have h5 := of_decide_eq_true h5
    have hlt : i < n + 1 := by omega
    refine G.skip ?_
    refine G.seq ?_
    refine G.block ?_
    refine G.region_lit ?_
    refine GO.moveAny tfine rfl (.inl rfl) rfl rfl rfl ?_
    refine GO.more tfine rfl trivial ?_
    refine GO.callSay 19 (fun u : Cho => .agg #[slV (n + 1) u, I 0]) (fun u => sb (slV (n + 1) u)) (fun u => newI w.heap.size (unitL (n + 1) i) (slV (n + 1) u)) rfl rfl rfl rfl rfl (fun args w => Try.call86 args w) (fun ρ w1 hs hok => refUnitC w.heap.size hs.fr.toBelow.size hlt (by omega)) fun u => ?_
    obtain ⟨A1, c1, hv⟩ : ∃ A1 c1, slV (n + 1) u = .slice A1 (n + 1) c1 := ⟨_, _, rfl⟩
    rw [hv]
    refine GO.more tfine rfl trivial ?_
    refine GO.appendAccAB (n := i) (c := cp) (el := fun j => [us j, I (cAt L j).2]) [.slice A1 (n + 1) c1, I 0] [(1, .v (.c (.ptr 1 0 0 0))), (4, .v (.c (.k (I i))))]
        [(1, .var 25 [.inp 1000 Ao (n + 1) co, .inp 1001 Ar p.rows.length cr, .inp 1002 Al p.lim.length cl]), (839, .say SR (fun w => ∀ j, j < i → IntsAt w (us j) (cAt L j).1)), (19, .say (sb (.slice A1 (n + 1) c1)) (newI w.heap.size (unitL (n + 1) i) (.slice A1 (n + 1) c1))), (1000, .ro 1 (n + 1) (elI p.obj)), (1001, .ro 1 p.rows.length (fun i => [vs0 i])), (1002, .ro 1 p.lim.length (elI p.lim))] apRe rfl rfl rfl rfl rfl rfl rfl rfl rfl rfl (fun x hx => by simp at hx; rcases hx with rfl | rfl <;> rfl)
      (St.le_of rfl ⟨⟨_, rfl, Blk.le_refl _⟩, ⟨_, rfl, Blk.le_refl _⟩, ⟨_, rfl, Blk.le_refl _⟩, ⟨_, rfl, Blk.le_refl _⟩, ⟨_, rfl, Blk.le_refl _⟩, ⟨_, rfl, Blk.le_refl _⟩, trivial⟩ ⟨rfl, rfl, trivial⟩) (subM.fr ⟨rfl, nx rfl, rfl, nx rfl, rfl, nx rfl, rfl, nx rfl, rfl, nx rfl, rfl, nx rfl, trivial⟩) (fun k hk => rfl) (by unfold maxLen; omega) (by omega) fun c' hc' => ?_
    refine GO.fin tfine rfl trivial ?_
    refine G.fact 19 (φ := ∀ k, sb (.slice A1 (n + 1) c1) k → w.heap.size ≤ k) rfl (fun w h => h.2) fun hnew => ?_
    refine G.bothS 839 839 19 (fun k => SR k ∨ sb (.slice A1 (n + 1) c1) k) (fun w => ∀ j, j < i + 1 → IntsAt w ((fun j => if j = i then .slice A1 (n + 1) c1 else us j) j) (cAt L j).1) rfl rfl (fun k hk => hk) (fun s1 s2 => steady_snoc s1 (fun k hk => .inl hk) (fun k hk => .inr hk)) (fun w ha hb => snoc_ints ha (by rw [hLlo i hlt]; exact hb.ints)) (fun b hb => ⟨_, _, (Option.some.inj hb).symm⟩) ?_
    refine G.reg tfine rfl trivial ?_
    rw [IntWalk.i64_in ((i : Int) + 1) (by omega)]
    refine ⟨(i + 1, c', (fun j => if j = i then .slice A1 (n + 1) c1 else us j), fun k => SR k ∨ sb (.slice A1 (n + 1) c1) k), ⟨by simp only; omega, hc', fun k hk => hk.elim (hSR k) (hnew k), snoc_sbV hU⟩, (by show n + 1 - (i + 1) < n + 1 - i; omega), ?_⟩
    exact St.le_of rfl ⟨⟨_, rfl, Blk.le_refl _⟩, ⟨_, rfl, rfl, rfl, Nat.le_refl _, snoc_el (by rw [hLlo i hlt]), Nat.le_refl _⟩, ⟨_, rfl, Blk.le_refl _⟩, ⟨_, rfl, Blk.le_refl _⟩, ⟨_, rfl, Blk.le_refl _⟩, ⟨_, rfl, Blk.le_refl _⟩, trivial⟩ ⟨rfl, rfl, by simp [up, I], trivial⟩
  have h5 := of_decide_eq_false h5
  have : i = n + 1 := by omega
  subst this
  refine G.exit ?_
  clear h5 hi
  refine G.weaken (st' := St.of [(1, .v (.c (.ptr 1 0 0 0))), (3, .v (.c (.slc 21 0 2 (n + 1) cp)))]
      [(1, .var 25 [.inp 1000 Ao (n + 1) co, .inp 1001 Ar p.rows.length cr, .inp 1002 Al p.lim.length cl]), (21, .arr 106 2 (n + 1) (fun j => [us j, I (cAt L j).2]) ((cp - (n + 1)) * 2)), (839, .say SR (fun w => ∀ j, j < n + 1 → IntsAt w (us j) (cAt L j).1)), (1000, .ro 1 (n + 1) (elI p.obj)), (1001, .ro 1 p.rows.length (fun i => [vs0 i])), (1002, .ro 1 p.lim.length (elI p.lim))])
    (St.le_of rfl ⟨⟨_, rfl, Blk.le_refl _⟩, ⟨_, rfl, Blk.le_refl _⟩, ⟨_, rfl, Blk.le_refl _⟩, ⟨_, rfl, Blk.le_refl _⟩, ⟨_, rfl, Blk.le_refl _⟩, ⟨_, rfl, Blk.le_refl _⟩, trivial⟩ ⟨rfl, rfl, trivial⟩) ?_
  refine G.rn 21 63 rfl trivial rfl rfl rfl ?_
  refine G.seq ?_
  refine G.seqR tfine rfl trivial ?_
  refine G.block (G.loop (fun z : Nat × Nat × (Nat → Value) × (Nat → Prop) => St.of [(1, .v (.c (.ptr 1 0 0 0))), (3, .v (.c (.slc 63 0 2 (z.1 + (n + 1)) z.2.1))), (5, .v (.c (.k (I z.1))))]
      [(1, .var 25 [.inp 1000 Ao (n + 1) co, .inp 1001 Ar p.rows.length cr, .inp 1002 Al p.lim.length cl]), (63, .arr 106 2 (z.1 + (n + 1)) (fun j => [z.2.2.1 j, I (cAt L j).2]) ((z.2.1 - (z.1 + (n + 1))) * 2)), (839, .say z.2.2.2 (fun w => ∀ j, j < z.1 + (n + 1) → IntsAt w (z.2.2.1 j) (cAt L j).1)), (1000, .ro 1 (n + 1) (elI p.obj)), (1001, .ro 1 p.rows.length (fun i => [vs0 i])), (1002, .ro 1 p.lim.length (elI p.lim))])
    (fun z => z.1 ≤ p.rows.length ∧ z.1 + (n + 1) ≤ z.2.1 ∧ (∀ k, z.2.2.2 k → w.heap.size ≤ k) ∧ ∀ j, j < z.1 + (n + 1) → ∀ k, sb (z.2.2.1 j) k → z.2.2.2 k) (fun z => p.rows.length - z.1) (0, cp, us, SR) ⟨Nat.zero_le _, by simp only; omega, hSR, by simp only [Nat.zero_add]; exact hU⟩ ?_ ?_)
  · rw [show (0 : Nat) + (n + 1) = n + 1 from Nat.zero_add _]
    exact St.le_of rfl ⟨⟨_, rfl, Blk.le_refl _⟩, ⟨_, rfl, Blk.le_refl _⟩, ⟨_, rfl, Blk.le_refl _⟩, ⟨_, rfl, Blk.le_refl _⟩, ⟨_, rfl, Blk.le_refl _⟩, ⟨_, rfl, Blk.le_refl _⟩, trivial⟩ ⟨rfl, rfl, rfl, trivial⟩
  clear hSR hcp hU
  rintro ⟨i, cp, us, SR⟩ ⟨hi, hcp, hSR, hU⟩
  simp only at hi hcp hSR hU
  refine G.seq ?_
  refine G.seqR tfine rfl trivial ?_
  refine G.cond (b := decide ((i : Int) < (p.rows.length : Int))) rfl (fun h5 => ?_) (fun h5 => ?_)
  · have h5 := of_decide_eq_true h5
    have hlt : i < p.rows.length := by omega
    refine G.skip ?_
    refine G.seq ?_
    refine G.block ?_
    obtain ⟨row, hrow⟩ : ∃ row, row = p.rows.getD i [] := ⟨_, rfl⟩
    have hrl : row.length = n + 1 := by rw [hrow]; exact h4 _ (by rw [List.getD_eq_getElem?_getD, List.getElem?_eq_getElem hlt]; exact List.getElem_mem hlt)
    obtain ⟨Aq, cq, hvq, hAq, _⟩ := hri i hlt
    rw [← hrow] at hvq hAq
    rw [hrl] at hvq
    have hci : cAt L (i + (n + 1)) = (negW row, W (0 - p.lim.getD i 0)) := by rw [hLhi i hlt, negRow, neg1, hrow]
    apply G.drawC (ch := fun j => match j with | 6 => some (sayF 35 (fun u => slV (n + 1) u) (fun u => sb (slV (n + 1) u)) (fun u => newI w.heap.size (negW row) (slV (n + 1) u))) | 15 => some (accZ 63 44 39 (i + (n + 1)) 2 106 (fun j => [us j, I (cAt L j).2]) (n + 1) (newI w.heap.size (negW row)) [I (W (0 - p.lim.getD i 0))]) | _ => none) (cls := [0, 0, 2, 0, 14, 30, 62, 0, 128, 0, 896, 1920, 3968, 8190, 16382, 32767, 65535]) (X := [(6, 35), (15, 44), (15, 63), (15, 39)]) hmix rfl rfl rfl
    · intro c
      refine GC.more tfine 0 rfl rfl rfl ⟨by omega, by omega, by omega, trivial⟩ ?_
      rw [Int.toNat_natCast]
      refine GC.choice 6 rfl _ rfl (StepsC.callSay 35 (fun u => slV (n + 1) u) (fun u => sb (slV (n + 1) u)) (fun u => newI w.heap.size (negW row) (slV (n + 1) u)) rfl rfl rfl rfl rfl (fun args w => Try.call46 args w) (fun m' hle ρ w1 hs hok => ?_)) rfl sayF_nm rfl ?_
      · show Calls Try.prog _ #[vs0 i] w1 _
        rw [hvq]
        have := refMinusC (c0 := cq) (l := row) w.heap.size hs.fr.toBelow.size (hAq.below hs.fr.toBelow) (by omega)
        rw [hrl] at this
        exact this
      refine GC.more tfine 7 rfl rfl rfl ⟨by omega, by omega, by omega, trivial⟩ ?_
      rw [Int.toNat_natCast]
      refine GC.choice 15 rfl _ rfl (StepsC.appendAccZ (n := i + (n + 1)) (c := cp) 35 39 (c 6) [I (W (0 - p.lim.getD i 0))] apRe rfl rfl rfl rfl rfl rfl rfl rfl rfl rfl rfl rfl rfl (fun u hu => by simp at hu; subst hu; rfl) (fun k hk => rfl) (by unfold maxLen; omega) (by omega) rfl rfl rfl rfl rfl rfl (fun u => newI_steady)) rfl accZ_nm rfl ?_
      refine GC.more tfine 16 rfl rfl rfl trivial ?_
      refine GC.nil ?_
      obtain ⟨A1, c1, hv⟩ : ∃ A1 c1, slV (n + 1) (pr2 (c 15)) = .slice A1 (n + 1) c1 := ⟨_, _, rfl⟩
      obtain ⟨cp2, hcp2⟩ : ∃ cp2, cp2 = capN (i + (n + 1) + 1) (pr1 (c 15)) := ⟨_, rfl⟩
      have hcl : i + (n + 1) + 1 ≤ cp2 := by rw [hcp2]; exact capN_le _ _
      refine G.weaken (st' := St.of [(1, .v (.c (.ptr 1 0 0 0))), (3, .v (.c (.slc 44 0 2 (i + (n + 1) + 1) cp2))), (5, .v (.c (.k (I i))))]
          [(1, .var 25 [.inp 1000 Ao (n + 1) co, .inp 1001 Ar p.rows.length cr, .inp 1002 Al p.lim.length cl]), (44, .arr 106 2 (i + (n + 1) + 1) (elN (fun j => [us j, I (cAt L j).2]) (i + (n + 1)) [.slice A1 (n + 1) c1, I (W (0 - p.lim.getD i 0))]) ((cp2 - (i + (n + 1) + 1)) * 2)), (839, .say SR (fun w => ∀ j, j < i + (n + 1) → IntsAt w (us j) (cAt L j).1)), (39, .say (sb (.slice A1 (n + 1) c1)) (newI w.heap.size (negW row) (.slice A1 (n + 1) c1))), (1000, .ro 1 (n + 1) (elI p.obj)), (1001, .ro 1 p.rows.length (fun i => [vs0 i])), (1002, .ro 1 p.lim.length (elI p.lim))])
        (St.le_of rfl ⟨⟨_, rfl, Blk.le_refl _⟩, ⟨_, rfl, by rw [← hv, hcp2]; exact Blk.le_refl _⟩, ⟨_, rfl, Blk.le_refl _⟩, ⟨_, rfl, by rw [← hv]; exact Blk.le_refl _⟩, ⟨_, rfl, Blk.le_refl _⟩, ⟨_, rfl, Blk.le_refl _⟩, ⟨_, rfl, Blk.le_refl _⟩, trivial⟩ ⟨rfl, by rw [hcp2]; rfl, rfl, trivial⟩) ?_
      clear hv hcp2
      refine G.fact 39 (φ := ∀ k, sb (.slice A1 (n + 1) c1) k → w.heap.size ≤ k) rfl (fun w h => h.2) fun hnew => ?_
      refine G.bothS 839 839 39 (fun k => SR k ∨ sb (.slice A1 (n + 1) c1) k) (fun w => ∀ j, j < i + (n + 1) + 1 → IntsAt w ((fun j => if j = i + (n + 1) then .slice A1 (n + 1) c1 else us j) j) (cAt L j).1) rfl rfl (fun k hk => hk) (fun s1 s2 => steady_snoc s1 (fun k hk => .inl hk) (fun k hk => .inr hk)) (fun w ha hb => snoc_ints ha (by rw [hci]; exact hb.ints)) (fun b hb => ⟨_, _, (Option.some.inj hb).symm⟩) ?_
      refine G.rn 44 63 rfl trivial rfl rfl rfl ?_
      refine G.reg tfine rfl trivial ?_
      rw [show IntKind.i64.wrap ((i : Int) + 1) = (i : Int) + 1 from IntWalk.i64_in ((i : Int) + 1) (by omega)]
      refine ⟨(i + 1, cp2, (fun j => if j = i + (n + 1) then .slice A1 (n + 1) c1 else us j), fun k => SR k ∨ sb (.slice A1 (n + 1) c1) k), ⟨by simp only; omega, by simp only; omega, fun k hk => hk.elim (hSR k) (hnew k), by simp only [show i + 1 + (n + 1) = i + (n + 1) + 1 by omega]; exact snoc_sbV hU⟩, (by show p.rows.length - (i + 1) < p.rows.length - i; omega), ?_⟩
      simp only [show i + 1 + (n + 1) = i + (n + 1) + 1 by omega]
      exact St.le_of rfl ⟨⟨_, rfl, Blk.le_refl _⟩, ⟨_, rfl, rfl, rfl, Nat.le_refl _, snoc_el (by rw [hci]), Nat.le_refl _⟩, ⟨_, rfl, Blk.le_refl _⟩, ⟨_, rfl, Blk.le_refl _⟩, ⟨_, rfl, Blk.le_refl _⟩, ⟨_, rfl, Blk.le_refl _⟩, trivial⟩ ⟨rfl, rfl, by simp [up, I], trivial⟩
    ·
      intro c c' j hj h
      have hj : j < 17 := hj
      match j, hj, h with
      | 0, _, h => first | rfl | (show some _ = some _; done)
      | 1, _, h => first | rfl | (show some _ = some _; done)
      | 2, _, h => first | rfl | (show some _ = some _; done)
      | 3, _, h => first | rfl | (show some _ = some _; done)
      | 4, _, h => first | rfl | (show some _ = some _; done)
      | 5, _, h => first | rfl | (show some _ = some _; done)
      | 6, _, h => first | rfl | (show some _ = some _; (try rw [h 6 (.inl rfl)]); (try rw [h 6 (.inr ⟨rfl, rfl⟩)]); done)
      | 7, _, h => first | rfl | (show some _ = some _; (try rw [h 6 (.inl rfl)]); (try rw [h 6 (.inr ⟨rfl, rfl⟩)]); done)
      | 8, _, h => first | rfl | (show some _ = some _; (try rw [h 6 (.inl rfl)]); (try rw [h 6 (.inr ⟨rfl, rfl⟩)]); done)
      | 9, _, h => first | rfl | (show some _ = some _; (try rw [h 6 (.inl rfl)]); (try rw [h 6 (.inr ⟨rfl, rfl⟩)]); done)
      | 10, _, h => first | rfl | (show some _ = some _; (try rw [h 6 (.inl rfl)]); (try rw [h 6 (.inr ⟨rfl, rfl⟩)]); done)
      | 11, _, h => first | rfl | (show some _ = some _; (try rw [h 6 (.inl rfl)]); (try rw [h 6 (.inr ⟨rfl, rfl⟩)]); done)
      | 12, _, h => first | rfl | (show some _ = some _; (try rw [h 6 (.inl rfl)]); (try rw [h 6 (.inr ⟨rfl, rfl⟩)]); done)
      | 13, _, h => first | rfl | (show some _ = some _; (try rw [h 6 (.inl rfl)]); (try rw [h 6 (.inr ⟨rfl, rfl⟩)]); done)
      | 14, _, h => first | rfl | (show some _ = some _; (try rw [h 6 (.inl rfl)]); (try rw [h 6 (.inr ⟨rfl, rfl⟩)]); done)
      | 15, _, h => first | rfl | (show some _ = some _; (try rw [h 6 (.inl rfl)]); (try rw [h 6 (.inr ⟨rfl, rfl⟩)]); (try rw [h 15 (.inl rfl)]); (try rw [h 15 (.inr ⟨rfl, rfl⟩)]); done)
      | 16, _, h => first | rfl | (show some _ = some _; (try rw [h 6 (.inl rfl)]); (try rw [h 6 (.inr ⟨rfl, rfl⟩)]); (try rw [h 15 (.inl rfl)]); (try rw [h 15 (.inr ⟨rfl, rfl⟩)]); done)
      | q + 17, hj, h => exact absurd hj (by omega)
  have h5 := of_decide_eq_false h5
  have : i = p.rows.length := by omega
  subst this
  refine G.exit ?_
  rw [← hLl] at hcp hU ⊢
  refine G.freezeArr 63 3 rfl rfl (Nat.le_refl _) fun g hg => ?_
  have hg : w.heap.size ≤ g := hg.elim id (fun h => by cases h)
  refine G.seqR tfine rfl trivial ?_
  exact G.ret (ret_cons (X := 63) (Y := 839) rfl hg hcp hSR hU rfl rfl)
end Go.Proofs.Ytafhnfcahhlanaa
/- Chapter 27: the reference's Keeps, Value, Lowest. -/
set_option linter.unusedVariables false
set_option linter.unusedSimpArgs false
set_option maxRecDepth 8000
set_option maxHeartbeats 2000000
namespace Go.Proofs.Ytafhnfcahhlanaa
open Go.Sx Go.RowKit
theorem refKeeps_any (lv : Value) (L : List Cond) (vs : Nat → Value) (B : Option Addr) (d : Nat) (nums : List Int) (over : Int) (w : World) (hL : ConsAt w lv L vs) (hB : RdRow w B nums.length 1 (elI nums))
    (hl : ∀ i, i < L.length → (cAt L i).1.length ≤ nums.length) (hn : nums.length ≤ 100000) (hn2 : L.length ≤ 100000) :
    Calls Try.prog 60 #[lv, .agg #[.slice B nums.length d, I over]] w fun e w' => e = .returned (.bool (keepsM L nums over)) ∧ Below w.heap.size w w' := by
  obtain ⟨A, c, rfl, hA, hc, hi⟩ := hL
  obtain ⟨q, hq⟩ : ∃ q : Nat → Bool, q = fun i => failC nums over (cAt L i) := ⟨_, rfl⟩
  refine enterPlain tfine Try.func60 rfl 29 Try.ntmps60 [.c (.inp 1000 A L.length c), .agg [.inp 1001 B nums.length d, .k (I over)]] [⟨1000, A, 2, L.length, elC L vs⟩, ⟨1001, B, 1, nums.length, elI nums⟩] rfl rfl ⟨hA, hB, trivial⟩ ⟨.inl ⟨rfl, rfl, rfl⟩, ⟨.inr ⟨nx rfl, .inl ⟨rfl, rfl, rfl⟩⟩, trivial, trivial⟩, trivial⟩ ?_
  refine G.seqR tfine rfl trivial ?_
  refine G.seq ?_
  refine G.seqR tfine rfl trivial ?_
  refine G.block (G.loop (fun k : Nat => St.of [(0, .v (.c (.inp 1000 A L.length c))), (3, .v (.c (.ptr 3 0 0 0))), (5, .v (.c (.k (I k))))] [(3, .var 29 [.inp 1001 B nums.length d, .k (I over)]), (1000, .ro 2 L.length (elC L vs)), (1001, .ro 1 nums.length (elI nums))])
    (fun k => k ≤ L.length ∧ firstI q 0 L.length = firstI q k (L.length - k)) (fun k => L.length - k) 0 ⟨Nat.zero_le _, rfl⟩ (St.le_of rfl ⟨⟨_, rfl, Blk.le_refl _⟩, ⟨_, rfl, Blk.le_refl _⟩, ⟨_, rfl, Blk.le_refl _⟩, trivial⟩ ⟨rfl, rfl, rfl, trivial⟩) ?_)
  rintro k ⟨hk, hfi⟩
  refine G.seq ?_
  refine G.seqR tfine rfl trivial ?_
  refine G.cond (b := decide ((k : Int) < (L.length : Int))) rfl (fun h => ?_) (fun h => ?_)
  · have h := of_decide_eq_true h
    have hlt : k < L.length := by omega
    rw [firstI_cons _ k _ (by omega)] at hfi
    obtain ⟨A1, c1, hv, hA1, _⟩ := hi k hlt
    refine G.skip ?_
    refine G.seq ?_
    refine G.block ?_
    refine G.seqDraw hmix [0, 0, 3, 7, 15, 0, 32, 127, 0, 0, 768, 1792, 3840, 0, 8192, 32512, 65535] [] rfl rfl rfl ?_
    refine GD.more tfine 0 rfl rfl ⟨by omega, by omega, by omega, trivial⟩ ?_
    rw [Int.toNat_natCast]
    refine GD.call (v := I (dotL (cAt L k).1 nums)) 7 rfl rfl rfl rfl rfl (fun args w => Try.call61 args w) (fun m' hle ρ w1 hs hok => ?_) ?_
    · show Calls Try.prog _ #[vs k, _] w1 _
      rw [hv]
      exact refDot_any A1 B c1 d (cAt L k).1 nums w1 (hA1.below hs.fr.toBelow) (hB.below hs.fr.toBelow) (hl k hlt) (by omega)
    refine GD.fin tfine 8 rfl rfl ⟨by omega, by omega, by omega, trivial⟩ ?_
    rw [Int.toNat_natCast]
    refine G.cond (b := q k) (by rw [hq]; rfl) (fun h2 => ?_) (fun h2 => ?_)
    · refine G.seqR tfine rfl trivial ?_
      refine G.ret (endK.ret rfl ?_)
      rw [keepsM, ← hq, hfi, if_pos h2]
      simp
    · refine G.skip ?_
      refine G.reg tfine rfl trivial ?_
      rw [IntWalk.i64_in ((k : Int) + 1) (by omega)]
      rw [if_neg (by simpa using h2)] at hfi
      exact ⟨k + 1, ⟨by omega, by rw [hfi]; rfl⟩, (by show L.length - (k + 1) < L.length - k; omega), St.le_of rfl ⟨⟨_, rfl, Blk.le_refl _⟩, ⟨_, rfl, Blk.le_refl _⟩, ⟨_, rfl, Blk.le_refl _⟩, trivial⟩ ⟨rfl, rfl, by simp [up, I], trivial⟩⟩
  have h := of_decide_eq_false h
  have : k = L.length := by omega
  subst this
  refine G.exit ?_
  refine G.seqR tfine rfl trivial ?_
  refine G.ret (endK.ret rfl ?_)
  rw [keepsM, ← hq, hfi]
  simp [firstI]
end Go.Proofs.Ytafhnfcahhlanaa
/- Chapter 27: the reference's Value, Keeps, Lowest. -/
set_option linter.unusedVariables false
set_option linter.unusedSimpArgs false
set_option maxRecDepth 8000
set_option maxHeartbeats 2000000
namespace Go.Proofs.Ytafhnfcahhlanaa
open Go.Sx Go.RowKit
theorem anyI_no {q : Int → Bool} {l : List Int} (h : ¬ anyI q l = true) : ∀ k, k < l.length → q (l.getD k 0) = false := by
  intro i hi
  cases hq : q (l.getD i 0) with
  | false => rfl
  | true =>
    refine absurd ?_ h
    rw [anyI, firstI_any, List.any_eq_true]
    exact ⟨i, List.mem_range'_1.2 ⟨Nat.zero_le _, by omega⟩, hq⟩
theorem badB2_no {x : Int} (h : badB2 x = false) : -1000 ≤ x ∧ x ≤ 1000 := by
  rw [← badB2_eq, show W (0 - 1000) = -1000 from IntWalk.i64_in (0 - 1000) (by decide), Bool.or_eq_false_iff] at h
  have h1 := of_decide_eq_false h.1
  have h2 := of_decide_eq_false h.2
  omega
theorem inB_no {x : Int} (h : inB x = false) : -35184372088832 ≤ x ∧ x ≤ 35184372088832 := by
  unfold inB at h
  rw [Bool.or_eq_false_iff] at h
  have h1 := of_decide_eq_false h.1
  have h2 := of_decide_eq_false h.2
  omega
theorem check_obj {p : Prob} (h : checkM p = 0) : (∀ k, k < p.obj.length → -1000 ≤ p.obj.getD k 0 ∧ p.obj.getD k 0 ≤ 1000) ∧ (∀ k, k < p.lim.length → -1000 ≤ p.lim.getD k 0 ∧ p.lim.getD k 0 ≤ 1000) := by
  unfold checkM at h
  split at h
  · cases h
  split at h
  · cases h
  split at h
  · cases h
  split at h
  · cases h
  rename_i g4
  exact ⟨fun k hk => badB2_no (anyI_no (fun h' => g4 (.inl h')) k hk), fun k hk => badB2_no (anyI_no (fun h' => g4 (.inr h')) k hk)⟩
theorem inM_nums {l : List Int} {o : Int} (h : inM l o = true) : ∀ k, k < l.length → -35184372088832 ≤ l.getD k 0 ∧ l.getD k 0 ≤ 35184372088832 := by
  unfold inM at h
  rw [Bool.and_eq_true] at h
  have h2 : anyB l = false := by simpa using h.2
  exact fun k hk => inB_no (anyI_no (q := inB) (by rw [← anyB_eq, h2]; decide) k hk)
theorem mul_bound {x y A B : Int} (h1 : -A ≤ x) (h2 : x ≤ A) (h3 : -B ≤ y) (h4 : y ≤ B) : -(A * B) ≤ x * y ∧ x * y ≤ A * B := by
  have a1 : 0 ≤ (A - x) * (B - y) := Int.mul_nonneg (by omega) (by omega)
  have a2 : 0 ≤ (A + x) * (B + y) := Int.mul_nonneg (by omega) (by omega)
  have a3 : 0 ≤ (A - x) * (B + y) := Int.mul_nonneg (by omega) (by omega)
  have a4 : 0 ≤ (A + x) * (B - y) := Int.mul_nonneg (by omega) (by omega)
  simp only [Int.sub_mul, Int.add_mul, Int.mul_sub, Int.mul_add] at a1 a2 a3 a4
  omega
theorem dotN_bound {a b : Nat → Int} {A B : Int} (hA : A * B ≤ 100000000000000000) (h0 : 0 ≤ A * B) : ∀ n, n ≤ 8 → (∀ k, k < n → (-A ≤ a k ∧ a k ≤ A) ∧ -B ≤ b k ∧ b k ≤ B) → -(n * (A * B)) ≤ dotN a b n ∧ dotN a b n ≤ n * (A * B)
  | 0, _, _ => by simp [dotN]
  | n + 1, hn, h => by
    obtain ⟨h1, h2⟩ := dotN_bound hA h0 n (by omega) fun k hk => h k (by omega)
    obtain ⟨⟨a1, a2⟩, a3, a4⟩ := h n (by omega)
    obtain ⟨m1, m2⟩ := mul_bound a1 a2 a3 a4
    generalize A * B = M at *
    have e : (((n + 1 : Nat) : Int)) * M = n * M + M := by
      rw [show (((n + 1 : Nat) : Int)) = (n : Int) + 1 by omega, Int.add_mul, Int.one_mul]
    have e2 : (n : Int) * M ≤ 8 * M := Int.mul_le_mul_of_nonneg_right (by omega) h0
    rw [e]
    have w1 : W (a n * b n) = a n * b n := IntWalk.i64_in _ (by omega)
    have w2 : W (dotN a b n + a n * b n) = dotN a b n + a n * b n := IntWalk.i64_in _ (by omega)
    rw [dotN]
    first
      | (rw [w1, w2]; omega)
      | (rw [w2]; omega)
theorem refPrimal_cho (p : Prob) (pv : Value) (vs0 : Nat → Value) (w : World) (hp : ProbAt w pv p vs0) (h0 : 0 < p.obj.length) (h1 : p.obj.length ≤ 1000) (h2 : p.rows.length ≤ 1000) (h3 : p.lim.length = p.rows.length) (h4 : ∀ r ∈ p.rows, r.length = p.obj.length) :
    Calls Try.prog 42 #[pv] w fun e w' => ∃ u : Cho, e = .returned (slV (primalM p 1).length u) ∧ Below w.heap.size w w' ∧ conR (primalM p 1) u w' ∧ (∀ k, u.2 k → w.heap.size ≤ k ∧ k < w'.heap.size) ∧ Steady u.2 (conR (primalM p 1) u) := by
  obtain ⟨n, hn⟩ : ∃ n, p.obj.length = n + 1 := ⟨p.obj.length - 1, by omega⟩
  exact (refPrimal_any p pv vs0 n w hp hn (by omega) h2 h3 (fun r hr => by rw [h4 r hr, hn])).mono fun e w' h => h.cho
end Go.Proofs.Ytafhnfcahhlanaa
/- Chapter 27: the law of Value, Keeps and Lowest. -/
set_option linter.unusedVariables false
set_option linter.unusedSimpArgs false
set_option maxRecDepth 8000
set_option maxHeartbeats 2000000
namespace Go.Proofs.Ytafhnfcahhlanaa
open Go.Sx Go.RowKit
theorem few_len {p : Prob} (h : fewM p = true) : p.obj.length ≤ 8 ∧ p.rows.length ≤ 8 ∧ p.lim.length ≤ 8 ∧ ∀ r ∈ p.rows, r.length ≤ 8 := by
  rw [fewM, Bool.and_eq_true, Bool.not_eq_true', Bool.not_eq_true', Bool.or_eq_false_iff, Bool.or_eq_false_iff] at h
  obtain ⟨⟨⟨h1, h2⟩, h3⟩, h4⟩ := h
  have h1 := of_decide_eq_false h1
  have h2 := of_decide_eq_false h2
  have h3 := of_decide_eq_false h3
  refine ⟨by omega, by omega, by omega, fun r hr => ?_⟩
  have := anyRow_no (by rw [h4]; decide) r hr
  have := of_decide_eq_false this
  omega
end Go.Proofs.Ytafhnfcahhlanaa
/- Chapter 27: the laws for every argument. -/
set_option linter.unusedVariables false
set_option linter.unusedSimpArgs false
set_option maxRecDepth 8000
set_option maxHeartbeats 1000000
namespace Go.Proofs.Ytafhnfcahhlanaa
open Go.Sx Go.RowKit
theorem pick_listL {β : Type} {p : β → List Value → Prop} : ∀ {l : List (List Value)}, (∀ es ∈ l, ∃ b, p b es) → ∃ bs : List β, bs.length = l.length ∧ ∀ i (hi : i < l.length) (hj : i < bs.length), p bs[i] l[i]
  | [], _ => ⟨[], rfl, fun i hi => absurd hi (Nat.not_lt_zero i)⟩
  | es :: l, h => by
    obtain ⟨b, hb⟩ := h es List.mem_cons_self
    obtain ⟨bs, h1, h2⟩ := pick_listL (l := l) fun es he => h es (List.mem_cons_of_mem _ he)
    refine ⟨b :: bs, by simp [h1], fun i hi hj => ?_⟩
    cases i with
    | zero => exact hb
    | succ i => exact h2 i (by simpa using hi) (by simpa using hj)
theorem rowInts {w : World} {A : Option Addr} {c : Nat} {ess : List (List Value)} {d : Nat} (hr : RdRow w A ess.length 1 (fun i => ess.getD i [])) (hc : ess.length ≤ c) (hw : ∀ es ∈ ess, LeafAll (Leaf.says w (d + 1)) [.int .i64] es) :
    ∃ l : List Int, l.length = ess.length ∧ IntsAt w (.slice A ess.length c) l := by
  obtain ⟨l, h1, h2⟩ := pick_listL (β := Int) (p := fun x es => es = [I x]) (l := ess) fun es he => by
    obtain ⟨_, _, rfl, ⟨a0, rfl, _⟩, e0⟩ := (hw es he).cons
    obtain rfl := e0.nil
    exact ⟨a0, rfl⟩
  refine ⟨l, h1, A, c, by rw [h1], ?_, fun _ => by omega⟩
  rw [h1]
  refine hr.congr fun i hi => ?_
  show elI l i = _
  rw [elI, List.getD_eq_getElem?_getD, List.getD_eq_getElem?_getD, List.getElem?_eq_getElem hi, List.getElem?_eq_getElem (by omega)]
  exact (h2 i hi (by omega)).symm
theorem rowMat {w : World} {A : Option Addr} {c : Nat} {ess : List (List Value)} {d : Nat} (hr : RdRow w A ess.length 1 (fun i => ess.getD i [])) (hc : ess.length ≤ c) (hw : ∀ es ∈ ess, LeafAll (Leaf.says w (d + 2)) [.row 1 [.int .i64]] es) :
    ∃ (M : List (List Int)) (vs : Nat → Value), M.length = ess.length ∧ MatAt w (.slice A ess.length c) M vs := by
  obtain ⟨l, h1, h2⟩ := pick_listL (β := Value × List Int) (p := fun x es => es = [x.1] ∧ IntsAt w x.1 x.2) (l := ess) fun es he => by
    obtain ⟨_, _, rfl, ⟨a0, len, cap, rfl, _, ⟨_, hcap⟩, ess2, rfl, hr2, hw2⟩, e0⟩ := (hw es he).cons
    obtain rfl := e0.nil
    obtain ⟨l2, _, h3⟩ := rowInts hr2 hcap hw2
    exact ⟨(_, l2), rfl, h3⟩
  refine ⟨l.map (·.2), fun i => (l.getD i (undef, [])).1, by simpa using h1, A, c, by simp [h1], ?_, fun _ => by simp [h1]; omega, fun i hi => ?_⟩
  · rw [List.length_map, h1]
    refine hr.congr fun i hi => ?_
    simp only [List.getD_eq_getElem?_getD, List.getElem?_eq_getElem hi, List.getElem?_eq_getElem (show i < l.length by omega), Option.getD_some]
    exact (h2 i hi (by omega)).1.symm
  · have hi : i < l.length := by simpa using hi
    have := (h2 i (by omega) hi).2
    simp only [List.getD_eq_getElem?_getD, List.getElem?_map, List.getElem?_eq_getElem hi, Option.map_some, Option.getD_some]
    exact this
theorem rowProb {w : World} {A B C : Option Addr} {c d e : Nat} {ea eb ec : List (List Value)} {k : Nat} (r1 : RdRow w A ea.length 1 (fun i => ea.getD i [])) (m1 : ea.length ≤ maxLen ∧ ea.length ≤ c) (w1 : ∀ es ∈ ea, LeafAll (Leaf.says w (k + 2)) [.int .i64] es)
    (r2 : RdRow w B eb.length 1 (fun i => eb.getD i [])) (m2 : eb.length ≤ maxLen ∧ eb.length ≤ d) (w2 : ∀ es ∈ eb, LeafAll (Leaf.says w (k + 2)) [.row 1 [.int .i64]] es)
    (r3 : RdRow w C ec.length 1 (fun i => ec.getD i [])) (m3 : ec.length ≤ maxLen ∧ ec.length ≤ e) (w3 : ∀ es ∈ ec, LeafAll (Leaf.says w (k + 2)) [.int .i64] es) :
    ∃ p vs, ProbAt w (.agg #[.slice A ea.length c, .slice B eb.length d, .slice C ec.length e]) p vs ∧ p.rows.length ≤ 9223372036854775807 := by
  obtain ⟨l1, h1, i1⟩ := rowInts r1 m1.2 w1
  obtain ⟨M, vs, h2, i2⟩ := rowMat r2 m2.2 w2
  obtain ⟨l3, h3, i3⟩ := rowInts r3 m3.2 w3
  refine ⟨⟨l1, M, l3⟩, vs, ⟨_, _, _, rfl, i1, i2, i3⟩, ?_⟩
  show M.length ≤ _
  have := m2.1
  unfold maxLen at this
  omega
end Go.Proofs.Ytafhnfcahhlanaa
/- Chapter 27: the reference's Compare. -/
set_option linter.unusedVariables false
set_option linter.unusedSimpArgs false
set_option maxRecDepth 8000
set_option maxHeartbeats 1000000
namespace Go.Proofs.Ytafhnfcahhlanaa
open Go.Sx Go.RowKit
theorem orN (a b s : Nat) (hb : b < 2 ^ s) (h : a * 2 ^ s + b < 18446744073709551616) : bitsOp .or .u64 ((a * 2 ^ s : Nat) : Int) (b : Int) = ((a * 2 ^ s + b : Nat) : Int) := by
  show IntKind.u64.wrap (((BitVec.ofInt 64 ((a * 2 ^ s : Nat) : Int) ||| BitVec.ofInt 64 (b : Int)).toNat : Nat) : Int) = _
  rw [BitVec.ofInt_natCast, BitVec.ofInt_natCast, BitVec.toNat_or, BitVec.toNat_ofNat, BitVec.toNat_ofNat, Nat.mod_eq_of_lt (show a * 2 ^ s < 2 ^ 64 by omega), Nat.mod_eq_of_lt (show b < 2 ^ 64 by omega),
    ← Nat.shiftLeft_eq, ← Nat.shiftLeft_add_eq_or_of_lt hb, Nat.shiftLeft_eq, wrapU _ h]
theorem and31 (n : Nat) (h : n < 18446744073709551616) : bitsOp .and .u64 (n : Int) 2147483647 = ((n % 2147483648 : Nat) : Int) := by
  show IntKind.u64.wrap (((BitVec.ofInt 64 (n : Int) &&& BitVec.ofInt 64 2147483647).toNat : Nat) : Int) = _
  rw [BitVec.ofInt_natCast, show BitVec.ofInt 64 2147483647 = BitVec.ofNat 64 2147483647 from rfl, BitVec.toNat_and, BitVec.toNat_ofNat, BitVec.toNat_ofNat, Nat.mod_eq_of_lt (show n < 2 ^ 64 by omega), show 2147483647 % 2 ^ 64 = 2 ^ 31 - 1 by rfl, Nat.and_two_pow_sub_one_eq_mod]
  rw [IntKind.wrap_u64]; omega
theorem shr31 (n : Nat) : ((n : Int).fdiv (2 ^ (min (31 : Int).toNat IntKind.u64.bits))) = ((n / 2147483648 : Nat) : Int) := by
  have : (2 : Int) ^ (min (31 : Int).toNat IntKind.u64.bits) = 2147483648 := rfl
  rw [this, Int.fdiv_eq_ediv_of_nonneg _ (by decide)]
  omega
theorem shl31 (n : Nat) (h : n < 2147483648) : IntKind.u64.wrap ((n : Int) * 2 ^ (min (31 : Int).toNat IntKind.u64.bits)) = ((n * 2 ^ 31 : Nat) : Int) := by
  have : (2 : Int) ^ (min (31 : Int).toNat IntKind.u64.bits) = 2147483648 := rfl
  rw [this, IntKind.wrap_u64]
  omega
theorem halves31 {x y : Nat} : x * y = (x / 2147483648) * (y / 2147483648) * 4611686018427387904 + ((x % 2147483648) * (y / 2147483648) + (x / 2147483648) * (y % 2147483648)) * 2147483648 + (x % 2147483648) * (y % 2147483648) := by
  have h := Go.Lib.split_mul (x / 2147483648) (x % 2147483648) (y / 2147483648) (y % 2147483648) 2147483648
  rw [Nat.div_add_mod' x 2147483648, Nat.div_add_mod' y 2147483648] at h
  rw [h]
  omega
theorem refProd_any (x y : Nat) (hx : x < 4611686018427387904) (hy : y < 4611686018427387904) (w : World) :
    Calls Try.prog 66 #[I x, I y] w fun e w' => e = .returned (.agg #[U (x * y / 4611686018427387904 : Nat), U (x * y % 4611686018427387904 : Nat)]) ∧ Below w.heap.size w w' := by
  refine enterPlain tfine Try.func66 rfl 53 Try.ntmps66 [.c (.k (I x)), .c (.k (I y))] [] rfl rfl trivial ⟨trivial, trivial, trivial⟩ ?_
  have hxy := halves31 (x := x) (y := y)
  obtain ⟨x1, hx1⟩ : ∃ z, z = x / 2147483648 := ⟨_, rfl⟩
  obtain ⟨x0, hx0⟩ : ∃ z, z = x % 2147483648 := ⟨_, rfl⟩
  obtain ⟨y1, hy1⟩ : ∃ z, z = y / 2147483648 := ⟨_, rfl⟩
  obtain ⟨y0, hy0⟩ : ∃ z, z = y % 2147483648 := ⟨_, rfl⟩
  rw [← hx1, ← hx0, ← hy1, ← hy0] at hxy
  have b1 : x1 ≤ 2147483647 ∧ x0 ≤ 2147483647 ∧ y1 ≤ 2147483647 ∧ y0 ≤ 2147483647 := by omega
  have m1 : x0 * y0 ≤ 2147483647 * 2147483647 := Nat.mul_le_mul b1.2.1 b1.2.2.2
  have m2 : x0 * y1 ≤ 2147483647 * 2147483647 := Nat.mul_le_mul b1.2.1 b1.2.2.1
  have m3 : x1 * y0 ≤ 2147483647 * 2147483647 := Nat.mul_le_mul b1.1 b1.2.2.2
  have m4 : x1 * y1 ≤ 2147483647 * 2147483647 := Nat.mul_le_mul b1.1 b1.2.2.1
  refine G.seqR tfine rfl trivial ?_
  refine G.seqR tfine rfl trivial ?_
  rw [wrapU x (by omega), wrapU y (by omega)]
  refine G.seqR tfine rfl trivial ?_
  rw [and31 x (by omega), and31 y (by omega), ← hx0, ← hy0, mulU x0 y0 (by omega)]
  refine G.seqR tfine rfl ⟨by decide, by decide, trivial⟩ ?_
  rw [and31 x (by omega), shr31, ← hx0, ← hy1, mulU x0 y1 (by omega), shr31, addU _ _ (by omega)]
  obtain ⟨lo, hlo⟩ : ∃ z, z = x0 * y0 := ⟨_, rfl⟩
  obtain ⟨mid, hmid⟩ : ∃ z, z = x0 * y1 + lo / 2147483648 := ⟨_, rfl⟩
  rw [← hlo, ← hmid]
  have hlo2 : lo ≤ 2147483647 * 2147483647 := by omega
  have hmid2 : mid ≤ 2147483647 * 2147483647 + 2147483647 := by omega
  refine G.seqR tfine rfl ⟨by decide, trivial⟩ ?_
  rw [shr31 x, and31 y (by omega), ← hx1, ← hy0, mulU x1 y0 (by omega), and31 mid (by omega), addU _ _ (by omega)]
  obtain ⟨oth, hoth⟩ : ∃ z, z = x1 * y0 + mid % 2147483648 := ⟨_, rfl⟩
  rw [← hoth]
  have hoth2 : oth ≤ 2147483647 * 2147483647 + 2147483647 := by omega
  refine G.seqR tfine rfl ⟨by decide, by decide, by decide, by decide, by decide, trivial⟩ ?_
  rw [shr31 x, shr31 y, ← hx1, ← hy1, mulU x1 y1 (by omega), shr31 mid, addU _ _ (by omega), shr31 oth, addU _ _ (by omega), and31 oth (by omega), shl31 _ (by omega), and31 lo (by omega), orN (oth % 2147483648) (lo % 2147483648) 31 (by omega) (by omega)]
  have e : x * y = (x1 * y1 + mid / 2147483648 + oth / 2147483648) * 4611686018427387904 + (oth % 2147483648 * 2 ^ 31 + lo % 2147483648) := by
    rw [hxy]
    obtain ⟨p, hp⟩ : ∃ z, z = x1 * y1 := ⟨_, rfl⟩
    obtain ⟨q, hq⟩ : ∃ z, z = x0 * y1 := ⟨_, rfl⟩
    obtain ⟨r, hr⟩ : ∃ z, z = x1 * y0 := ⟨_, rfl⟩
    rw [← hlo, ← hp, ← hq, ← hr]
    rw [← hq] at hmid
    rw [← hr] at hoth
    clear hxy m1 m2 m3 m4 hx hy b1 hx1 hx0 hy1 hy0 hp hq hr hlo
    omega
  have e1 : x * y / 4611686018427387904 = x1 * y1 + mid / 2147483648 + oth / 2147483648 := by rw [e]; omega
  have e2 : x * y % 4611686018427387904 = oth % 2147483648 * 2 ^ 31 + lo % 2147483648 := by rw [e]; omega
  rw [e1, e2]
  exact G.ret (endK.ret rfl rfl)
theorem less_any (a b : Nat) (w : World) :
    Calls Try.prog 67 #[.agg #[U (a / 4611686018427387904 : Nat), U (a % 4611686018427387904 : Nat)], .agg #[U (b / 4611686018427387904 : Nat), U (b % 4611686018427387904 : Nat)]] w fun e w' => e = .returned (.bool (decide (a < b))) ∧ Below w.heap.size w w' := by
  refine enterPlain tfine Try.func67 rfl 24 Try.ntmps67 [.agg [.k (U (a / 4611686018427387904 : Nat)), .k (U (a % 4611686018427387904 : Nat))], .agg [.k (U (b / 4611686018427387904 : Nat)), .k (U (b % 4611686018427387904 : Nat))]] [] rfl rfl trivial ⟨⟨trivial, trivial, trivial⟩, ⟨trivial, trivial, trivial⟩, trivial⟩ ?_
  refine G.seqR tfine rfl trivial ?_
  refine G.seqR tfine rfl ?_ ?_
  · simp [AllP, condB]
    try (intros; and_intros <;> assumption)
  refine G.ret (endK.ret rfl (vb ?_))
  rw [Bool.eq_iff_iff]
  simp
  omega
theorem refCmpN_any (a b c d : Nat) (ha : a < 4611686018427387904) (hb : b < 4611686018427387904) (hc : c < 4611686018427387904) (hd : d < 4611686018427387904) (w : World) :
    Calls Try.prog 24 #[I a, I b, I c, I d] w fun e w' => e = .returned (I (sgnU (a * d) (c * b))) ∧ Below w.heap.size w w' := by
  refine enterPlain tfine Try.func24 rfl 44 Try.ntmps24 [.c (.k (I a)), .c (.k (I b)), .c (.k (I c)), .c (.k (I d))] [] rfl rfl trivial ⟨trivial, trivial, trivial, trivial, trivial⟩ ?_
  refine G.seqR tfine rfl trivial ?_
  refine G.seq (G.seqR tfine rfl ?_ ?_)
  · first | trivial | (simp [AllP, condB]; done) | (simp only [AllP]; and_intros <;> first | trivial | decide | omega) | (simp [AllP, condB]; intros; and_intros <;> first | assumption | omega) | (simp [AllP, condB]; intros; simp_all; done)
  refine G.cond (b := decide ((a : Int) < 0) && decide ((c : Int) ≥ 0)) rfl (fun h2 => absurd h2 (by simp)) (fun _ => ?_)
  refine G.skip ?_
  refine G.seq (G.seqR tfine rfl ?_ ?_)
  · first | trivial | (simp [AllP, condB]; done) | (simp only [AllP]; and_intros <;> first | trivial | decide | omega) | (simp [AllP, condB]; intros; and_intros <;> first | assumption | omega) | (simp [AllP, condB]; intros; simp_all; done)
  refine G.cond (b := decide ((a : Int) ≥ 0) && decide ((c : Int) < 0)) rfl (fun h2 => absurd h2 (by simp)) (fun _ => ?_)
  refine G.skip ?_
  refine G.seq (G.seqR tfine rfl trivial ?_)
  refine G.cond (b := decide ((a : Int) < 0)) rfl (fun h2 => absurd (of_decide_eq_true h2) (by omega)) (fun _ => ?_)
  refine G.skip ?_
  refine G.seqC tfine rfl trivial ?_
  refine GO.callPlain rfl rfl rfl rfl (fun args w => Try.call66 args w) (fun ρ w hs hok => refProd_any a d ha hd w) ?_
  refine GO.more tfine rfl trivial ?_
  refine GO.callPlain rfl rfl rfl rfl (fun args w => Try.call66 args w) (fun ρ w hs hok => refProd_any c b hc hb w) ?_
  refine GO.fin tfine rfl trivial ?_
  refine G.seq ?_
  refine G.seqC tfine rfl trivial ?_
  refine GO.callPlain rfl rfl rfl rfl (fun args w => Try.call67 args w) (fun ρ w hs hok => less_any (a * d) (c * b) w) ?_
  refine GO.fin tfine rfl trivial ?_
  refine G.cond (b := decide (a * d < c * b)) rfl (fun h => ?_) (fun h => ?_)
  · have h := of_decide_eq_true h
    refine G.seqR tfine rfl trivial ?_
    exact G.ret (endK.ret rfl (by rw [sgnU, if_pos h]))
  have h1 := of_decide_eq_false h
  refine G.skip ?_
  refine G.seq ?_
  refine G.seqC tfine rfl trivial ?_
  refine GO.callPlain rfl rfl rfl rfl (fun args w => Try.call67 args w) (fun ρ w hs hok => less_any (c * b) (a * d) w) ?_
  refine GO.fin tfine rfl trivial ?_
  refine G.cond (b := decide (c * b < a * d)) rfl (fun h => ?_) (fun h => ?_)
  · have h := of_decide_eq_true h
    refine G.seqR tfine rfl trivial ?_
    exact G.ret (endK.ret rfl (by rw [sgnU, if_neg h1, if_pos h]))
  have h2 := of_decide_eq_false h
  refine G.skip ?_
  refine G.seqR tfine rfl trivial ?_
  exact G.ret (endK.ret rfl (by rw [sgnU, if_neg h1, if_neg h2]))
theorem toU_nat (n : Nat) (h : n < 18446744073709551616) : toU (n : Int) = n := by unfold toU; omega
theorem refCmp_any (a b c d : Int) (ha : -4611686018427387904 < a) (ha2 : a < 4611686018427387904) (hb : 0 ≤ b) (hb2 : b < 4611686018427387904) (hc : -4611686018427387904 < c) (hc2 : c < 4611686018427387904) (hd : 0 ≤ d) (hd2 : d < 4611686018427387904) (w : World) :
    Calls Try.prog 24 #[I a, I b, I c, I d] w fun e w' => e = .returned (I (cmpM a b c d)) ∧ Below w.heap.size w w' := by
  obtain ⟨B, rfl⟩ : ∃ B : Nat, b = B := ⟨b.toNat, by omega⟩
  obtain ⟨D, rfl⟩ : ∃ D : Nat, d = D := ⟨d.toNat, by omega⟩
  by_cases hac : 0 ≤ a ∧ 0 ≤ c
  · obtain ⟨A, rfl⟩ : ∃ A : Nat, a = A := ⟨a.toNat, by omega⟩
    obtain ⟨C, rfl⟩ : ∃ C : Nat, c = C := ⟨c.toNat, by omega⟩
    have := refCmpN_any A B C D (by omega) (by omega) (by omega) (by omega) w
    rw [cmpM, if_neg (by omega), cmp0, if_neg (by omega), if_neg (by omega), cmpU, toU_nat _ (by omega), toU_nat _ (by omega), toU_nat _ (by omega), toU_nat _ (by omega)]
    exact this
  refine enterPlain tfine Try.func24 rfl 44 Try.ntmps24 [.c (.k (I a)), .c (.k (I B)), .c (.k (I c)), .c (.k (I D))] [] rfl rfl trivial ⟨trivial, trivial, trivial, trivial, trivial⟩ ?_
  refine G.seqR tfine rfl trivial ?_
  refine G.seq (G.seqR tfine rfl ?_ ?_)
  · clear ha ha2 hb hb2 hc hc2 hd hd2 hac
    simp [AllP, condB]
  refine G.cond (b := decide (a < 0) && decide (c ≥ 0)) rfl (fun h2 => ?_) (fun h2 => ?_)
  · have h2 : a < 0 ∧ 0 ≤ c := by simpa using h2
    refine G.seqR tfine rfl trivial ?_
    exact G.ret (endK.ret rfl (by rw [cmpM, if_neg (by omega), cmp0, if_pos h2.1]))
  have h2 : ¬ (a < 0 ∧ 0 ≤ c) := fun h => by rw [decide_eq_true h.1, decide_eq_true h.2] at h2; cases h2
  refine G.skip ?_
  refine G.seq (G.seqR tfine rfl ?_ ?_)
  · clear ha ha2 hb hb2 hc hc2 hd hd2 hac
    simp [AllP, condB]
  refine G.cond (b := decide (a ≥ 0) && decide (c < 0)) rfl (fun h3 => ?_) (fun h3 => ?_)
  · have h3 : 0 ≤ a ∧ c < 0 := by simpa using h3
    refine G.seqR tfine rfl trivial ?_
    exact G.ret (endK.ret rfl (by rw [cmpM, if_neg (by omega), cmp0, if_neg (by omega), if_pos h3.2]))
  have h3 : ¬ (0 ≤ a ∧ c < 0) := fun h => by rw [decide_eq_true (show a ≥ 0 from h.1), decide_eq_true h.2] at h3; cases h3
  refine G.skip ?_
  refine G.seq (G.seqR tfine rfl trivial ?_)
  have hn : a < 0 := by omega
  have hcn : c < 0 := by omega
  refine G.cond (b := decide (a < 0)) rfl (fun _ => ?_) (fun h4 => absurd hn (of_decide_eq_false h4))
  obtain ⟨A, hA⟩ : ∃ A : Nat, W (0 - a) = A := ⟨(0 - a).toNat, by rw [show W (0 - a) = 0 - a from IntWalk.i64_in _ (by omega)]; omega⟩
  obtain ⟨C, hC⟩ : ∃ C : Nat, W (0 - c) = C := ⟨(0 - c).toNat, by rw [show W (0 - c) = 0 - c from IntWalk.i64_in _ (by omega)]; omega⟩
  have hA2 : (A : Int) = 0 - a := by rw [← hA]; exact IntWalk.i64_in _ (by omega)
  have hC2 : (C : Int) = 0 - c := by rw [← hC]; exact IntWalk.i64_in _ (by omega)
  refine G.seqC tfine rfl trivial ?_
  refine GO.callPlain (v := I (cmpM a B c D)) rfl rfl rfl rfl (fun args w => Try.call24 args w) (fun ρ w hs hok => ?_) ?_
  · have := refCmpN_any C D A B (by omega) (by omega) (by omega) (by omega) w
    rw [cmpM, if_pos ⟨hn, hcn⟩, hA, hC, cmp0, if_neg (by omega), if_neg (by omega), cmpU, toU_nat _ (by omega), toU_nat _ (by omega), toU_nat _ (by omega), toU_nat _ (by omega)]
    rw [← hA, ← hC] at this
    show Calls Try.prog _ #[I (W (0 - c)), I D, I (W (0 - a)), I B] w _
    rw [hA, hC] at this ⊢
    exact this
  refine GO.fin tfine rfl trivial ?_
  exact G.ret (endK.ret rfl rfl)
end Go.Proofs.Ytafhnfcahhlanaa
/- Chapter 27: the reference's conditions of the factors. -/
set_option linter.unusedVariables false
set_option linter.unusedSimpArgs false
set_option maxRecDepth 8000
set_option maxHeartbeats 2000000
namespace Go.Proofs.Ytafhnfcahhlanaa
open Go.Sx Go.RowKit
theorem colL_take (p : Prob) (k j : Nat) (h : j < p.rows.length) : (colL p k).take (j + 1) = (colL p k).take j ++ [(p.rows.getD j []).getD k 0] := by
  rw [List.take_succ_eq_append_getElem (by rw [colL_len]; exact h)]
  congr 2
  have := colL_get p k j h
  rw [List.getD_eq_getElem?_getD, List.getElem?_eq_getElem (by rw [colL_len]; exact h)] at this
  exact this
theorem refDualS_any (p : Prob) (pv : Value) (vs0 : Nat → Value) (m : Nat) (w : World) (hp : ProbAt w pv p vs0) (hm : p.rows.length = m + 1) (h1 : m + 1 ≤ 1000) (h2 : p.obj.length ≤ 1000) (h4 : ∀ r ∈ p.rows, r.length = p.obj.length) (hob : ∀ k, k < p.obj.length → W (1 * p.obj.getD k 0) = p.obj.getD k 0) :
    Calls Try.prog 45 #[pv] w fun e w' => ConsA (dualM p 1) w w' e := by
  obtain ⟨ov, rv, lv, rfl, ⟨Ao, co, rfl, ho, _⟩, ⟨Ar, cr, rfl, hr, _, hri⟩, ⟨Al, cl, rfl, hl, _⟩⟩ := hp
  rw [hm] at hr hri ⊢
  obtain ⟨L, hL⟩ : ∃ L, L = dualM p 1 := ⟨_, rfl⟩
  rw [← hL]
  have hLl : L.length = p.obj.length + (m + 1) := by rw [hL, dualM_len, hm]; omega
  have hLlo : ∀ i, i < m + 1 → cAt L i = (unitL (m + 1) i, 0) := fun i hi => by rw [hL, dualM_lo p 1 i (by omega), hm]
  have hLhi : ∀ i, i < p.obj.length → cAt L (i + (m + 1)) = (colL p i, p.obj.getD i 0) := fun i hi => by rw [hL, ← hm, dualM_hi p 1 i hi, colM, hob i hi]
  refine enterSay [] [.agg [.k (.slice Ao p.obj.length co), .k (.slice Ar (m + 1) cr), .k (.slice Al p.lim.length cl)]] [(990, .say (· < w.heap.size) (asOf w))] Try.func45 rfl 61 Try.ntmps45 rfl rfl ⟨⟨trivial, trivial, trivial, trivial⟩, trivial⟩ ⟨⟨asOf.refl w, fun k hk => hk, steady_asOf w⟩, trivial, trivial⟩ ?_
  refine G.seqR tfine rfl trivial ?_
  refine G.seqC tfine rfl trivial ?_
  refine GO.emptySliceS tfine rfl rfl rfl rfl rfl rfl rfl fun A0 hA0 => ?_
  refine GO.fin tfine rfl trivial ?_
  refine G.seq ?_
  refine G.seqR tfine rfl trivial ?_
  refine G.newNil 23 2 (fun j => [undef, I (cAt L j).2]) rfl ?_
  refine G.tellF 839 (fun w => ∀ j, j < 0 → IntsAt w undef (cAt L j).1) (fun w j hj => by omega) rfl ?_
  refine G.block (G.loop (fun z : Nat × Nat × (Nat → Value) × (Nat → Prop) => St.of [(1, .v (.c (.ptr 1 0 0 0))), (3, .v (.c (accVA A0 23 2 z.1 z.2.1))), (4, .v (.c (.k (I z.1))))]
      [(990, .say (· < w.heap.size) (asOf w)), (1, .var 25 [.k (.slice Ao p.obj.length co), .k (.slice Ar (m + 1) cr), .k (.slice Al p.lim.length cl)]), (23, accB 106 2 z.1 z.2.1 (fun j => [z.2.2.1 j, I (cAt L j).2])), (839, .say z.2.2.2 (fun w => ∀ j, j < z.1 → IntsAt w (z.2.2.1 j) (cAt L j).1))])
    (fun z => z.1 ≤ m + 1 ∧ z.1 ≤ z.2.1 ∧ (∀ k, z.2.2.2 k → w.heap.size ≤ k) ∧ ∀ j, j < z.1 → ∀ k, sb (z.2.2.1 j) k → z.2.2.2 k) (fun z => m + 1 - z.1) (0, 0, (fun _ => undef), fun _ => False) ⟨Nat.zero_le _, Nat.le_refl _, fun k hk => hk.elim, fun j hj => absurd hj (Nat.not_lt_zero j)⟩ (St.le_of rfl ⟨⟨_, rfl, Blk.le_refl _⟩, ⟨_, rfl, Blk.le_refl _⟩, ⟨_, rfl, Blk.le_refl _⟩, ⟨_, rfl, Blk.le_refl _⟩, trivial⟩ ⟨rfl, rfl, rfl, trivial⟩) ?_)
  rintro ⟨i, cp, us, SR⟩ ⟨hi, hcp, hSR, hU⟩
  simp only at hi hcp hSR hU
  refine G.seq ?_
  refine G.seqR tfine rfl trivial ?_
  refine G.cond (b := decide ((i : Int) < ((m + 1 : Nat) : Int))) rfl (fun h5 => ?_) (fun h5 => ?_)
  · have h5 := of_decide_eq_true h5
    have hlt : i < m + 1 := by omega
    refine G.skip ?_
    refine G.seq ?_
    refine G.block ?_
    refine G.region_lit ?_
    refine GO.moveAny tfine rfl (.inl rfl) rfl rfl rfl ?_
    refine GO.more tfine rfl trivial ?_
    refine GO.callSay 21 (fun u : Cho => .agg #[slV (m + 1) u, I 0]) (fun u => sb (slV (m + 1) u)) (fun u => newI w.heap.size (unitL (m + 1) i) (slV (m + 1) u)) rfl rfl rfl rfl rfl (fun args w => Try.call86 args w) (fun ρ w1 hs hok => refUnitC w.heap.size hs.fr.toBelow.size hlt (by omega)) fun u => ?_
    obtain ⟨A1, c1, hv⟩ : ∃ A1 c1, slV (m + 1) u = .slice A1 (m + 1) c1 := ⟨_, _, rfl⟩
    rw [hv]
    refine GO.more tfine rfl trivial ?_
    refine GO.appendAccAB (n := i) (c := cp) (el := fun j => [us j, I (cAt L j).2]) [.slice A1 (m + 1) c1, I 0] [(1, .v (.c (.ptr 1 0 0 0))), (4, .v (.c (.k (I i))))]
        [(990, .say (· < w.heap.size) (asOf w)), (1, .var 25 [.k (.slice Ao p.obj.length co), .k (.slice Ar (m + 1) cr), .k (.slice Al p.lim.length cl)]), (839, .say SR (fun w => ∀ j, j < i → IntsAt w (us j) (cAt L j).1)), (21, .say (sb (.slice A1 (m + 1) c1)) (newI w.heap.size (unitL (m + 1) i) (.slice A1 (m + 1) c1)))] apRe rfl rfl rfl rfl rfl rfl rfl rfl rfl rfl (fun x hx => by simp at hx; rcases hx with rfl | rfl <;> rfl)
      (St.le_of rfl ⟨⟨_, rfl, Blk.le_refl _⟩, ⟨_, rfl, Blk.le_refl _⟩, ⟨_, rfl, Blk.le_refl _⟩, ⟨_, rfl, Blk.le_refl _⟩, trivial⟩ ⟨rfl, rfl, trivial⟩) (subM.fr ⟨rfl, nx rfl, rfl, nx rfl, rfl, nx rfl, rfl, nx rfl, trivial⟩) (fun k hk => rfl) (by unfold maxLen; omega) (by omega) fun c' hc' => ?_
    refine GO.fin tfine rfl trivial ?_
    refine G.fact 21 (φ := ∀ k, sb (.slice A1 (m + 1) c1) k → w.heap.size ≤ k) rfl (fun w h => h.2) fun hnew => ?_
    refine G.bothS 839 839 21 (fun k => SR k ∨ sb (.slice A1 (m + 1) c1) k) (fun w => ∀ j, j < i + 1 → IntsAt w ((fun j => if j = i then .slice A1 (m + 1) c1 else us j) j) (cAt L j).1) rfl rfl (fun k hk => hk) (fun s1 s2 => steady_snoc s1 (fun k hk => .inl hk) (fun k hk => .inr hk)) (fun w ha hb => snoc_ints ha (by rw [hLlo i hlt]; exact hb.ints)) (fun b hb => ⟨_, _, (Option.some.inj hb).symm⟩) ?_
    refine G.reg tfine rfl trivial ?_
    rw [IntWalk.i64_in ((i : Int) + 1) (by omega)]
    refine ⟨(i + 1, c', (fun j => if j = i then .slice A1 (m + 1) c1 else us j), fun k => SR k ∨ sb (.slice A1 (m + 1) c1) k), ⟨by simp only; omega, hc', fun k hk => hk.elim (hSR k) (hnew k), snoc_sbV hU⟩, (by show m + 1 - (i + 1) < m + 1 - i; omega), ?_⟩
    exact St.le_of rfl ⟨⟨_, rfl, Blk.le_refl _⟩, ⟨_, rfl, Blk.le_refl _⟩, ⟨_, rfl, rfl, rfl, Nat.le_refl _, snoc_el (by rw [hLlo i hlt]), Nat.le_refl _⟩, ⟨_, rfl, Blk.le_refl _⟩, trivial⟩ ⟨rfl, rfl, by simp [up, I], trivial⟩
  have h5 := of_decide_eq_false h5
  have : i = m + 1 := by omega
  subst this
  refine G.exit ?_
  clear h5 hi
  refine G.weaken (st' := St.of [(1, .v (.c (.ptr 1 0 0 0))), (3, .v (.c (.slc 23 0 2 (m + 1) cp)))]
      [(990, .say (· < w.heap.size) (asOf w)), (1, .var 25 [.k (.slice Ao p.obj.length co), .k (.slice Ar (m + 1) cr), .k (.slice Al p.lim.length cl)]), (23, .arr 106 2 (m + 1) (fun j => [us j, I (cAt L j).2]) ((cp - (m + 1)) * 2)), (839, .say SR (fun w => ∀ j, j < m + 1 → IntsAt w (us j) (cAt L j).1))])
    (St.le_of rfl ⟨⟨_, rfl, Blk.le_refl _⟩, ⟨_, rfl, Blk.le_refl _⟩, ⟨_, rfl, Blk.le_refl _⟩, ⟨_, rfl, Blk.le_refl _⟩, trivial⟩ ⟨rfl, rfl, trivial⟩) ?_
  refine G.rn 23 59 rfl trivial rfl rfl rfl ?_
  refine G.seq ?_
  refine G.seqR tfine rfl trivial ?_
  refine G.block (G.loop (fun z : Nat × Nat × (Nat → Value) × (Nat → Prop) => St.of [(1, .v (.c (.ptr 1 0 0 0))), (3, .v (.c (.slc 59 0 2 (z.1 + (m + 1)) z.2.1))), (5, .v (.c (.k (I z.1))))]
      [(990, .say (· < w.heap.size) (asOf w)), (1, .var 25 [.k (.slice Ao p.obj.length co), .k (.slice Ar (m + 1) cr), .k (.slice Al p.lim.length cl)]), (59, .arr 106 2 (z.1 + (m + 1)) (fun j => [z.2.2.1 j, I (cAt L j).2]) ((z.2.1 - (z.1 + (m + 1))) * 2)), (839, .say z.2.2.2 (fun w => ∀ j, j < z.1 + (m + 1) → IntsAt w (z.2.2.1 j) (cAt L j).1))])
    (fun z => z.1 ≤ p.obj.length ∧ z.1 + (m + 1) ≤ z.2.1 ∧ (∀ k, z.2.2.2 k → w.heap.size ≤ k) ∧ ∀ j, j < z.1 + (m + 1) → ∀ k, sb (z.2.2.1 j) k → z.2.2.2 k) (fun z => p.obj.length - z.1) (0, cp, us, SR) ⟨Nat.zero_le _, by simp only; omega, hSR, by simp only [Nat.zero_add]; exact hU⟩ ?_ ?_)
  · rw [show (0 : Nat) + (m + 1) = m + 1 from Nat.zero_add _]
    exact St.le_of rfl ⟨⟨_, rfl, Blk.le_refl _⟩, ⟨_, rfl, Blk.le_refl _⟩, ⟨_, rfl, Blk.le_refl _⟩, ⟨_, rfl, Blk.le_refl _⟩, trivial⟩ ⟨rfl, rfl, rfl, trivial⟩
  clear hSR hcp hU
  rintro ⟨i, cp, us, SR⟩ ⟨hi, hcp, hSR, hU⟩
  simp only at hi hcp hSR hU
  refine G.seq ?_
  refine G.seqR tfine rfl trivial ?_
  refine G.cond (b := decide ((i : Int) < (p.obj.length : Int))) rfl (fun h5 => ?_) (fun h5 => ?_)
  · have h5 := of_decide_eq_true h5
    have hlt : i < p.obj.length := by omega
    refine G.skip ?_
    refine G.seq ?_
    refine G.block ?_
    refine G.seqC tfine rfl trivial ?_
    refine GO.emptySliceS tfine rfl rfl rfl rfl rfl rfl rfl fun A1 hA1 => ?_
    refine GO.fin tfine rfl trivial ?_
    refine G.seq ?_
    refine G.seqR tfine rfl trivial ?_
    refine G.newNil 49 1 (elI []) rfl ?_
    refine G.block (G.loop (fun z : Nat × Nat => St.of [(1, .v (.c (.ptr 1 0 0 0))), (3, .v (.c (.slc 59 0 2 (i + (m + 1)) cp))), (5, .v (.c (.k (I i)))), (6, .v (.c (accVA A1 49 1 z.1 z.2))), (7, .v (.c (.k (I z.1))))]
        [(990, .say (· < w.heap.size) (asOf w)), (1, .var 25 [.k (.slice Ao p.obj.length co), .k (.slice Ar (m + 1) cr), .k (.slice Al p.lim.length cl)]), (59, .arr 106 2 (i + (m + 1)) (fun j => [us j, I (cAt L j).2]) ((cp - (i + (m + 1))) * 2)), (839, .say SR (fun w => ∀ j, j < i + (m + 1) → IntsAt w (us j) (cAt L j).1)), (49, accB 3 1 z.1 z.2 (elI ((colL p i).take z.1)))])
      (fun z => z.1 ≤ m + 1 ∧ z.1 ≤ z.2) (fun z => m + 1 - z.1) (0, 0) ⟨Nat.zero_le _, Nat.le_refl _⟩ (St.le_of rfl ⟨⟨_, rfl, Blk.le_refl _⟩, ⟨_, rfl, Blk.le_refl _⟩, ⟨_, rfl, Blk.le_refl _⟩, ⟨_, rfl, Blk.le_refl _⟩, ⟨_, rfl, Blk.le_refl _⟩, trivial⟩ ⟨rfl, rfl, rfl, rfl, rfl, trivial⟩) ?_)
    rintro ⟨j, cq⟩ ⟨hj, hcq⟩
    simp only at hj hcq
    refine G.seq ?_
    refine G.seqR tfine rfl trivial ?_
    refine G.cond (b := decide ((j : Int) < ((m + 1 : Nat) : Int))) rfl (fun h6 => ?_) (fun h6 => ?_)
    · have h6 := of_decide_eq_true h6
      have hjn : j < m + 1 := by omega
      refine G.skip ?_
      refine G.seq ?_
      refine G.block ?_
      obtain ⟨row, hrow⟩ : ∃ row, row = p.rows.getD j [] := ⟨_, rfl⟩
      have hrl : row.length = p.obj.length := by rw [hrow]; exact h4 _ (by rw [List.getD_eq_getElem?_getD, List.getElem?_eq_getElem (by omega)]; exact List.getElem_mem (by omega))
      obtain ⟨Aq, cq2, hvq, hAq, _⟩ := hri j hjn
      rw [← hrow, hrl] at hvq hAq
      refine G.region_lit ?_
      refine GO.moveAny tfine rfl (.inl rfl) rfl rfl rfl ?_
      refine GO.firstN tfine 2 rfl trivial ?_
      refine GO.openSay (el := fun i => [vs0 i]) (sz := 1) 990 702 41 rfl (fun w' ha => hr.asOf ha) (fun k hk => sb_lt hr k hk) rfl rfl rfl ?_
      refine GO.firstN tfine 3 rfl ⟨by omega, by omega, by omega, trivial⟩ ?_
      rw [Int.toNat_natCast, hvq]
      refine GO.openSay (el := elI row) (sz := 1) 990 703 44 rfl (fun w' ha => hAq.asOf ha) (fun k hk => sb_lt hAq k hk) rfl rfl rfl ?_
      refine GO.more tfine rfl ⟨by omega, by omega, by omega, trivial⟩ ?_
      rw [Int.toNat_natCast]
      refine GO.appendAccAB (n := j) (c := cq) (el := elI ((colL p i).take j)) [I (row.getD i 0)] [(1, .v (.c (.ptr 1 0 0 0))), (3, .v (.c (.slc 59 0 2 (i + (m + 1)) cp))), (5, .v (.c (.k (I i)))), (7, .v (.c (.k (I j))))]
        [(990, .say (· < w.heap.size) (asOf w)), (1, .var 25 [.k (.slice Ao p.obj.length co), .k (.slice Ar (m + 1) cr), .k (.slice Al p.lim.length cl)]), (59, .arr 106 2 (i + (m + 1)) (fun j => [us j, I (cAt L j).2]) ((cp - (i + (m + 1))) * 2)), (839, .say SR (fun w => ∀ j, j < i + (m + 1) → IntsAt w (us j) (cAt L j).1))] apT35 rfl rfl rfl rfl rfl rfl rfl rfl rfl rfl (fun u hu => by simp at hu; subst hu; rfl)
        (St.le_of rfl ⟨⟨_, rfl, Blk.le_refl _⟩, ⟨_, rfl, Blk.le_refl _⟩, ⟨_, rfl, Blk.le_refl _⟩, ⟨_, rfl, Blk.le_refl _⟩, trivial⟩ ⟨rfl, rfl, rfl, rfl, trivial⟩) (subM.fr ⟨rfl, nx rfl, rfl, nx rfl, rfl, nx rfl, rfl, nx rfl, trivial⟩) (fun k hk => rfl) (by unfold maxLen; omega) (by omega) fun c' hc' => ?_
      refine GO.fin tfine rfl trivial ?_
      refine G.reg tfine rfl trivial ?_
      rw [IntWalk.i64_in ((j : Int) + 1) (by omega)]
      refine ⟨(j + 1, c'), ⟨by simp only; omega, hc'⟩, (by show m + 1 - (j + 1) < m + 1 - j; omega), ?_⟩
      refine St.le_of rfl ⟨⟨_, rfl, Blk.le_refl _⟩, ⟨_, rfl, Blk.le_refl _⟩, ⟨_, rfl, Blk.le_refl _⟩, ⟨_, rfl, Blk.le_refl _⟩, ⟨_, rfl, rfl, rfl, Nat.le_refl _, (fun q hq => ?_), Nat.le_refl _⟩, trivial⟩ ⟨rfl, rfl, rfl, rfl, by simp [up, I], trivial⟩
      have hlk : ((colL p i).take j).length = j := by rw [List.length_take, colL_len]; omega
      have := elI_snoc ((colL p i).take j) (row.getD i 0) q (by rw [hlk]; exact hq)
      rw [hlk] at this
      rw [colL_take p i j (by omega), ← hrow]
      exact this.symm
    have h6 := of_decide_eq_false h6
    have e : j = m + 1 := by omega
    subst e
    refine G.exit ?_
    have hcol : (colL p i).take (m + 1) = colL p i := List.take_of_length_le (by rw [colL_len]; omega)
    rw [hcol]
    refine G.weaken (st' := St.of [(1, .v (.c (.ptr 1 0 0 0))), (3, .v (.c (.slc 59 0 2 (i + (m + 1)) cp))), (5, .v (.c (.k (I i)))), (6, .v (.c (.slc 49 0 1 (m + 1) cq)))]
        [(990, .say (· < w.heap.size) (asOf w)), (1, .var 25 [.k (.slice Ao p.obj.length co), .k (.slice Ar (m + 1) cr), .k (.slice Al p.lim.length cl)]), (59, .arr 106 2 (i + (m + 1)) (fun j => [us j, I (cAt L j).2]) ((cp - (i + (m + 1))) * 2)), (839, .say SR (fun w => ∀ j, j < i + (m + 1) → IntsAt w (us j) (cAt L j).1)), (49, .arr 3 1 (m + 1) (elI (colL p i)) ((cq - (m + 1)) * 1))])
      (St.le_of rfl ⟨⟨_, rfl, Blk.le_refl _⟩, ⟨_, rfl, Blk.le_refl _⟩, ⟨_, rfl, Blk.le_refl _⟩, ⟨_, rfl, Blk.le_refl _⟩, ⟨_, rfl, Blk.le_refl _⟩, trivial⟩ ⟨rfl, rfl, rfl, rfl, trivial⟩) ?_
    refine G.freezeArr 49 6 rfl rfl (Nat.le_refl _) fun g hg => ?_
    have hg : w.heap.size ≤ g := hg.elim id (fun h => by cases h)
    refine G.region_lit ?_
    refine GO.moveAny tfine rfl (.inl rfl) rfl rfl rfl ?_
    refine GO.firstN tfine 3 rfl trivial ?_
    refine GO.openSay (el := elI p.obj) (sz := 1) 990 702 53 rfl (fun w' ha => ho.asOf ha) (fun k hk => sb_lt ho k hk) rfl rfl rfl ?_
    refine GO.more tfine rfl ⟨by omega, by omega, by omega, trivial⟩ ?_
    rw [Int.toNat_natCast]
    have hci := hLhi i hlt
    have hvi : ∀ w, RdRow w (some ⟨g, 0, none⟩) (m + 1) 1 (elI (colL p i)) → IntsAt w (.slice (some ⟨g, 0, none⟩) (m + 1) cq) (cAt L (i + (m + 1))).1 := fun w h => by
      have e2 : (colL p i).length = m + 1 := by rw [colL_len, hm]
      rw [hci]
      exact ⟨_, cq, by rw [e2], by rw [e2]; exact h, fun _ => by rw [e2]; exact hcq⟩
    refine GO.appendAccAB (A0 := none) (n := i + (m + 1)) (c := cp) (el := fun j => [us j, I (cAt L j).2]) [.slice (some ⟨g, 0, none⟩) (m + 1) cq, I (p.obj.getD i 0)] [(1, .v (.c (.ptr 1 0 0 0))), (5, .v (.c (.k (I i))))]
        [(990, .say (· < w.heap.size) (asOf w)), (1, .var 25 [.k (.slice Ao p.obj.length co), .k (.slice Ar (m + 1) cr), .k (.slice Al p.lim.length cl)]), (839, .say SR (fun w => ∀ j, j < i + (m + 1) → IntsAt w (us j) (cAt L j).1)), (49, .say (· = g) (fun w => RdRow w (some ⟨g, 0, none⟩) (m + 1) 1 (elI (colL p i))))] apRe rfl rfl rfl rfl rfl rfl rfl rfl rfl rfl (fun u hu => by simp at hu; rcases hu with rfl | rfl <;> rfl)
      (St.le_of rfl ⟨⟨_, rfl, Blk.le_refl _⟩, ⟨_, rfl, Blk.le_refl _⟩, ⟨_, rfl, Blk.le_refl _⟩, ⟨_, rfl, Blk.le_refl _⟩, trivial⟩ ⟨rfl, rfl, trivial⟩) (subM.fr ⟨rfl, nx rfl, rfl, nx rfl, rfl, nx rfl, rfl, nx rfl, trivial⟩) (fun k hk => rfl) (by unfold maxLen; omega) (by omega) fun c' hc' => ?_
    refine GO.fin tfine rfl trivial ?_
    refine G.bothS 839 839 49 (fun k => SR k ∨ k = g) (fun w => ∀ j, j < i + (m + 1) + 1 → IntsAt w ((fun j => if j = i + (m + 1) then .slice (some ⟨g, 0, none⟩) (m + 1) cq else us j) j) (cAt L j).1) rfl rfl (fun k hk => hk) (fun s1 s2 => steady_snoc s1 (fun k hk => .inl hk) (fun k ⟨_, a, e, hk⟩ => by cases e; exact .inr hk.symm)) (fun w ha hb => snoc_ints ha (hvi w hb)) (fun b hb => ⟨_, _, (Option.some.inj hb).symm⟩) ?_
    refine G.reg tfine rfl trivial ?_
    rw [IntWalk.i64_in ((i : Int) + 1) (by omega)]
    refine ⟨(i + 1, c', (fun j => if j = i + (m + 1) then .slice (some ⟨g, 0, none⟩) (m + 1) cq else us j), fun k => SR k ∨ k = g), ⟨by simp only; omega, by simp only; omega, fun k hk => hk.elim (hSR k) (fun e => by rw [e]; exact hg), by simp only [show i + 1 + (m + 1) = i + (m + 1) + 1 by omega]; exact snoc_sb hU⟩, (by show p.obj.length - (i + 1) < p.obj.length - i; omega), ?_⟩
    simp only [show i + 1 + (m + 1) = i + (m + 1) + 1 by omega]
    exact St.le_of rfl ⟨⟨_, rfl, Blk.le_refl _⟩, ⟨_, rfl, Blk.le_refl _⟩, ⟨_, rfl, rfl, rfl, Nat.le_refl _, snoc_el (by rw [hci]), Nat.le_refl _⟩, ⟨_, rfl, Blk.le_refl _⟩, trivial⟩ ⟨rfl, rfl, by simp [up, I], trivial⟩
  have h5 := of_decide_eq_false h5
  have : i = p.obj.length := by omega
  subst this
  refine G.exit ?_
  rw [← hLl] at hcp hU ⊢
  refine G.freezeArr 59 3 rfl rfl (Nat.le_refl _) fun g hg => ?_
  have hg : w.heap.size ≤ g := hg.elim id (fun h => by cases h)
  refine G.seqR tfine rfl trivial ?_
  exact G.ret (ret_cons (X := 59) (Y := 839) rfl hg hcp hSR hU rfl rfl)
end Go.Proofs.Ytafhnfcahhlanaa
/- Chapter 27: the reference's conditions of the factors without rules; conditions with right sides 0. -/
set_option linter.unusedVariables false
set_option linter.unusedSimpArgs false
set_option maxRecDepth 8000
set_option maxHeartbeats 2000000
namespace Go.Proofs.Ytafhnfcahhlanaa
open Go.Sx Go.RowKit
theorem refDual0_any (p : Prob) (pv : Value) (vs0 : Nat → Value) (w : World) (hp : ProbAt w pv p vs0) (hm : p.rows = []) (h2 : p.obj.length ≤ 1000) (h0 : 0 < p.obj.length) (hob : ∀ k, k < p.obj.length → W (1 * p.obj.getD k 0) = p.obj.getD k 0) :
    Calls Try.prog 45 #[pv] w fun e w' => ConsA (dualM p 1) w w' e := by
  obtain ⟨ov, rv, lv, rfl, ⟨Ao, co, rfl, ho, _⟩, ⟨Ar, cr, rfl, hr, _, hri⟩, ⟨Al, cl, rfl, hl, _⟩⟩ := hp
  obtain ⟨n, hn⟩ : ∃ n, p.obj.length = n + 1 := ⟨p.obj.length - 1, by omega⟩
  have hm0 : p.rows.length = 0 := by rw [hm]; rfl
  rw [hm0] at hr hri ⊢
  rw [hn] at ho h2 ⊢
  obtain ⟨L, hL⟩ : ∃ L, L = dualM p 1 := ⟨_, rfl⟩
  rw [← hL]
  have hLl : L.length = n + 1 := by rw [hL, dualM_len, hn, hm0]; omega
  have hLhi : ∀ i, i < n + 1 → cAt L i = ([], p.obj.getD i 0) := fun i hi => by
    have := dualM_hi p 1 i (by omega)
    rw [hm0, Nat.add_zero] at this
    rw [hL, this, colM, hob i (by omega), colL, hm]; rfl
  refine enterSay [] [.agg [.k (.slice Ao (n + 1) co), .k (.slice Ar 0 cr), .k (.slice Al p.lim.length cl)]] [(990, .say (· < w.heap.size) (asOf w))] Try.func45 rfl 61 Try.ntmps45 rfl rfl ⟨⟨trivial, trivial, trivial, trivial⟩, trivial⟩ ⟨⟨asOf.refl w, fun k hk => hk, steady_asOf w⟩, trivial, trivial⟩ ?_
  refine G.seqR tfine rfl trivial ?_
  refine G.seqC tfine rfl trivial ?_
  refine GO.emptySliceS tfine rfl rfl rfl rfl rfl rfl rfl fun A0 hA0 => ?_
  refine GO.fin tfine rfl trivial ?_
  refine G.seq ?_
  refine G.seqR tfine rfl trivial ?_
  refine G.block (G.rounds (GI.round ?_))
  refine G.seq ?_
  refine G.seqR tfine rfl trivial ?_
  refine G.cond_false rfl ?_
  refine G.exit ?_
  refine G.newNil 59 2 (fun j => [undef, I (cAt L j).2]) rfl ?_
  refine G.tellF 839 (fun w => ∀ j, j < 0 → IntsAt w undef (cAt L j).1) (fun w j hj => by omega) rfl ?_
  refine G.seq ?_
  refine G.seqR tfine rfl trivial ?_
  refine G.block (G.loop (fun z : Nat × Nat × (Nat → Value) => St.of [(1, .v (.c (.ptr 1 0 0 0))), (3, .v (.c (accVA A0 59 2 z.1 z.2.1))), (5, .v (.c (.k (I z.1))))]
      [(990, .say (· < w.heap.size) (asOf w)), (1, .var 25 [.k (.slice Ao (n + 1) co), .k (.slice Ar 0 cr), .k (.slice Al p.lim.length cl)]), (59, accB 106 2 z.1 z.2.1 (fun j => [z.2.2 j, I (cAt L j).2])), (839, .say (fun _ => False) (fun w => ∀ j, j < z.1 → IntsAt w (z.2.2 j) (cAt L j).1))])
    (fun z => z.1 ≤ n + 1 ∧ z.1 ≤ z.2.1 ∧ ∀ j, j < z.1 → ∃ A : Option Addr, z.2.2 j = .slice A 0 0) (fun z => n + 1 - z.1) (0, 0, fun _ => undef) ⟨Nat.zero_le _, Nat.le_refl _, fun j hj => absurd hj (Nat.not_lt_zero j)⟩ (St.le_of rfl ⟨⟨_, rfl, Blk.le_refl _⟩, ⟨_, rfl, Blk.le_refl _⟩, ⟨_, rfl, Blk.le_refl _⟩, ⟨_, rfl, Blk.le_refl _⟩, trivial⟩ ⟨rfl, rfl, rfl, trivial⟩) ?_)
  rintro ⟨i, cp, us⟩ ⟨hi, hcp, hU⟩
  simp only at hi hcp hU
  refine G.seq ?_
  refine G.seqR tfine rfl trivial ?_
  refine G.cond (b := decide ((i : Int) < ((n + 1 : Nat) : Int))) rfl (fun h5 => ?_) (fun h5 => ?_)
  · have h5 := of_decide_eq_true h5
    have hlt : i < n + 1 := by omega
    refine G.skip ?_
    refine G.seq ?_
    refine G.block ?_
    refine G.seqC tfine rfl trivial ?_
    refine GO.emptySliceS tfine rfl rfl rfl rfl rfl rfl rfl fun A1 hA1 => ?_
    refine GO.fin tfine rfl trivial ?_
    refine G.seq ?_
    refine G.seqR tfine rfl trivial ?_
    refine G.block (G.rounds (GI.round ?_))
    refine G.seq ?_
    refine G.seqR tfine rfl trivial ?_
    refine G.cond_false rfl ?_
    refine G.exit ?_
    refine G.region_lit ?_
    refine GO.moveAny tfine rfl (.inl rfl) rfl rfl rfl ?_
    refine GO.firstN tfine 3 rfl trivial ?_
    refine GO.openSay (el := elI p.obj) (sz := 1) 990 702 53 rfl (fun w' ha => ho.asOf ha) (fun k hk => sb_lt ho k hk) rfl rfl rfl ?_
    refine GO.more tfine rfl ⟨by omega, by omega, by omega, trivial⟩ ?_
    rw [Int.toNat_natCast]
    have hci := hLhi i hlt
    refine GO.appendAccAB (n := i) (c := cp) (el := fun j => [us j, I (cAt L j).2]) [.slice A1 0 0, I (p.obj.getD i 0)] [(1, .v (.c (.ptr 1 0 0 0))), (5, .v (.c (.k (I i))))]
        [(990, .say (· < w.heap.size) (asOf w)), (1, .var 25 [.k (.slice Ao (n + 1) co), .k (.slice Ar 0 cr), .k (.slice Al p.lim.length cl)]), (839, .say (fun _ => False) (fun w => ∀ j, j < i → IntsAt w (us j) (cAt L j).1))] apRe rfl rfl rfl rfl rfl rfl rfl rfl rfl rfl (fun u hu => by simp at hu; rcases hu with rfl | rfl <;> rfl)
      (St.le_of rfl ⟨⟨_, rfl, Blk.le_refl _⟩, ⟨_, rfl, Blk.le_refl _⟩, ⟨_, rfl, Blk.le_refl _⟩, trivial⟩ ⟨rfl, rfl, trivial⟩) (subM.fr ⟨rfl, nx rfl, rfl, nx rfl, rfl, nx rfl, trivial⟩) (fun k hk => rfl) (by unfold maxLen; omega) (by omega) fun c' hc' => ?_
    refine GO.fin tfine rfl trivial ?_
    have hU' : ∀ j, j < i + 1 → ∃ A' : Option Addr, (fun j => if j = i then .slice A1 0 0 else us j) j = .slice A' 0 0 := fun j hj => by
      by_cases e : j = i
      · exact ⟨A1, by simp only [if_pos e]⟩
      · obtain ⟨A', h'⟩ := hU j (by omega)
        exact ⟨A', by simp only [if_neg e]; exact h'⟩
    have hint : ∀ w : World, ∀ j, j < i + 1 → IntsAt w ((fun j => if j = i then .slice A1 0 0 else us j) j) (cAt L j).1 := fun w j hj => by
      obtain ⟨A', h'⟩ := hU' j hj
      rw [h', hLhi j (by omega)]
      exact ⟨A', 0, rfl, RdRow.nil _ _ _ _, fun h => absurd h (Nat.lt_irrefl 0)⟩
    refine G.bothS 839 839 839 (fun _ => False) (fun w => ∀ j, j < i + 1 → IntsAt w ((fun j => if j = i then .slice A1 0 0 else us j) j) (cAt L j).1) rfl rfl (fun k hk => hk.elim) (fun _ _ w1 w2 _ _ _ => hint w2) (fun w _ _ => hint w) (fun b hb => ⟨_, _, (Option.some.inj hb).symm⟩) ?_
    refine G.reg tfine rfl trivial ?_
    rw [IntWalk.i64_in ((i : Int) + 1) (by omega)]
    refine ⟨(i + 1, c', (fun j => if j = i then .slice A1 0 0 else us j)), ⟨by simp only; omega, hc', hU'⟩, (by show n + 1 - (i + 1) < n + 1 - i; omega), ?_⟩
    exact St.le_of rfl ⟨⟨_, rfl, Blk.le_refl _⟩, ⟨_, rfl, Blk.le_refl _⟩, ⟨_, rfl, rfl, rfl, Nat.le_refl _, snoc_el (by rw [hci]), Nat.le_refl _⟩, ⟨_, rfl, Blk.le_refl _⟩, trivial⟩ ⟨rfl, rfl, by simp [up, I], trivial⟩
  have h5 := of_decide_eq_false h5
  have : i = n + 1 := by omega
  subst this
  refine G.exit ?_
  refine G.weaken (st' := St.of [(1, .v (.c (.ptr 1 0 0 0))), (3, .v (.c (.slc 59 0 2 (n + 1) cp)))]
      [(990, .say (· < w.heap.size) (asOf w)), (1, .var 25 [.k (.slice Ao (n + 1) co), .k (.slice Ar 0 cr), .k (.slice Al p.lim.length cl)]), (59, .arr 106 2 (n + 1) (fun j => [us j, I (cAt L j).2]) ((cp - (n + 1)) * 2)), (839, .say (fun _ => False) (fun w => ∀ j, j < n + 1 → IntsAt w (us j) (cAt L j).1))])
    (St.le_of rfl ⟨⟨_, rfl, Blk.le_refl _⟩, ⟨_, rfl, Blk.le_refl _⟩, ⟨_, rfl, Blk.le_refl _⟩, ⟨_, rfl, Blk.le_refl _⟩, trivial⟩ ⟨rfl, rfl, trivial⟩) ?_
  have hsb : ∀ j, j < L.length → ∀ k, sb (us j) k → False := fun j hj k hk => by
    obtain ⟨A', h'⟩ := hU j (by omega)
    rw [h'] at hk
    exact Nat.lt_irrefl 0 hk.1
  rw [← hLl] at hcp ⊢
  refine G.freezeArr 59 3 rfl rfl (Nat.le_refl _) fun g hg => ?_
  have hg : w.heap.size ≤ g := hg.elim id (fun h => by cases h)
  refine G.seqR tfine rfl trivial ?_
  exact G.ret (ret_cons (X := 59) (Y := 839) (SR := fun _ => False) rfl hg hcp (fun k hk => hk.elim) hsb rfl rfl)
theorem refDual_cho (p : Prob) (pv : Value) (vs0 : Nat → Value) (w : World) (hp : ProbAt w pv p vs0) (h0 : 0 < p.obj.length) (h1 : p.obj.length ≤ 1000) (h2 : p.rows.length ≤ 1000) (h4 : ∀ r ∈ p.rows, r.length = p.obj.length) (hob : ∀ k, k < p.obj.length → W (1 * p.obj.getD k 0) = p.obj.getD k 0) :
    Calls Try.prog 45 #[pv] w fun e w' => ∃ u : Cho, e = .returned (slV (dualM p 1).length u) ∧ Below w.heap.size w w' ∧ conR (dualM p 1) u w' ∧ (∀ k, u.2 k → w.heap.size ≤ k ∧ k < w'.heap.size) ∧ Steady u.2 (conR (dualM p 1) u) := by
  by_cases hm : p.rows.length = 0
  · exact (refDual0_any p pv vs0 w hp (List.length_eq_zero_iff.1 hm) h1 h0 hob).mono fun e w' h => h.cho
  obtain ⟨m, hm⟩ : ∃ m, p.rows.length = m + 1 := ⟨p.rows.length - 1, by omega⟩
  exact (refDualS_any p pv vs0 m w hp hm (by omega) h1 h4 hob).mono fun e w' h => h.cho
/-! ### Right sides 0 -/
def homL (L : List Cond) : List Cond := L.map fun c => (c.1, 0)
theorem homL_len (L : List Cond) : (homL L).length = L.length := by simp [homL]
theorem homL_at (L : List Cond) (i : Nat) (h : i < L.length) : cAt (homL L) i = ((cAt L i).1, 0) := by
  simp [cAt, homL, List.getD_eq_getElem?_getD, List.getElem?_eq_getElem h]
theorem homL_primal (p : Prob) : homL (primalM p 1) = primalM p 0 := by
  simp only [homL, primalM, List.map_append, List.map_map]
  congr 1
  apply List.map_congr_left
  intro i _
  simp only [Function.comp, negRow]
  congr 1
  rw [show W (0 - 0) = 0 from rfl, Int.zero_mul]; rfl
theorem homL_dual (p : Prob) : homL (dualM p 1) = dualM p 0 := by
  simp only [homL, dualM, List.map_append, List.map_map]
  congr 1
  apply List.map_congr_left
  intro i _
  simp only [Function.comp, colM]
  congr 1
  rw [Int.zero_mul]; rfl
/-- The end of a function that answers with conditions whose lists lay there before. -/
theorem ret_hom {w : World} {N : Nat} {fn : Func} {st : St} {L : List Cond} {g c X : Nat} {us : Nat → Value} (h : resP TT st fn.results.toList = .mk (.slice (some ⟨g, 0, none⟩) L.length c)) (hg : w.heap.size ≤ g) (hc : L.length ≤ c) (hX : st.m X = some (.say (· = g) (fun w => RdRow w (some ⟨g, 0, none⟩) L.length 2 (elC L us)))) (hv : ∀ j, j < L.length → IntsAt w (us j) (cAt L j).1) :
    retK Try.prog ⟨w, [], N, none, []⟩ fn (fun e w' => ∃ u : Cho, e = .returned (slV L.length u) ∧ Below w.heap.size w w' ∧ conR L u w' ∧ (∀ k, u.2 k → (w.heap.size ≤ k ∨ ∃ j, j < L.length ∧ sb (us j) k) ∧ k < w'.heap.size) ∧ Steady u.2 (conR L u)) .ret st := by
  refine ⟨.inl rfl, fun ρ a w' hs => ⟨_, results_run tfine hs h, ?_⟩⟩
  obtain ⟨x1, x2, _⟩ := hs.mem.ok X _ hX
  have hb := hs.mem.fr.toBelow
  refine ⟨(.slice (some ⟨g, 0, none⟩) L.length c, fun k => k = g ∨ ∃ j, j < L.length ∧ sb (us j) k), by rw [slV_eq hc], hb, ⟨us, ?_, ?_, fun j hj k hk => .inr ⟨j, hj, hk⟩⟩, ?_, conR_steady⟩
  · rw [slV_eq hc]
    exact ⟨_, _, rfl, x1, fun _ => hc, fun i hi => (hv i hi).below hb⟩
  · rw [slV_eq hc]
    rintro k ⟨_, a, e, rfl⟩
    cases e
    exact .inl rfl
  · rintro k (rfl | ⟨j, hj, hk⟩)
    · exact ⟨.inl hg, x2 _ rfl⟩
    · refine ⟨.inr ⟨j, hj, hk⟩, ?_⟩
      obtain ⟨A, c2, e, hr, _⟩ := hv j hj
      rw [e] at hk
      have := sb_lt hr k hk
      exact Nat.lt_of_lt_of_le this hb.size
theorem refHom_any (lv : Value) (L : List Cond) (vs : Nat → Value) (w : World) (hL : ConsAt w lv L vs) (h0 : 0 < L.length) (hn : L.length ≤ 100000) :
    Calls Try.prog 63 #[lv] w fun e w' => ∃ u : Cho, e = .returned (slV (homL L).length u) ∧ Below w.heap.size w w' ∧ conR (homL L) u w' ∧ (∀ k, u.2 k → (w.heap.size ≤ k ∨ ∃ j, j < (homL L).length ∧ sb (vs j) k) ∧ k < w'.heap.size) ∧ Steady u.2 (conR (homL L) u) := by
  obtain ⟨A, c, rfl, hA, hc, hi⟩ := hL
  refine enterIn _ Try.func63 rfl 22 Try.ntmps63 [.c (.inp 1000 A L.length c)] [⟨1000, A, 2, L.length, elC L vs⟩] rfl rfl ⟨hA, trivial⟩ ⟨.inl ⟨rfl, rfl, rfl⟩, trivial⟩ ?_
  refine G.seqR tfine rfl trivial ?_
  refine G.seqC tfine rfl trivial ?_
  refine GO.emptySliceS tfine rfl rfl rfl rfl rfl rfl rfl fun A0 hA0 => ?_
  refine GO.fin tfine rfl trivial ?_
  refine G.seq ?_
  refine G.seqR tfine rfl trivial ?_
  refine G.newNil 20 2 (elC (homL L) vs) rfl ?_
  refine G.block (G.loop (fun z : Nat × Nat => St.of [(0, .v (.c (.inp 1000 A L.length c))), (3, .v (.c (accVA A0 20 2 z.1 z.2))), (4, .v (.c (.k (I z.1))))] [(20, accB 106 2 z.1 z.2 (elC (homL L) vs)), (1000, .ro 2 L.length (elC L vs))])
    (fun z => z.1 ≤ L.length ∧ z.1 ≤ z.2) (fun z => L.length - z.1) (0, 0) ⟨Nat.zero_le _, Nat.le_refl _⟩ (St.le_of rfl ⟨⟨_, rfl, Blk.le_refl _⟩, ⟨_, rfl, Blk.le_refl _⟩, trivial⟩ ⟨rfl, rfl, rfl, trivial⟩) ?_)
  rintro ⟨k, cp⟩ ⟨hk, hcp⟩
  simp only at hk hcp
  refine G.seq ?_
  refine G.seqR tfine rfl trivial ?_
  refine G.cond (b := decide ((k : Int) < (L.length : Int))) rfl (fun h2 => ?_) (fun h2 => ?_)
  rotate_left
  · have h2 := of_decide_eq_false h2
    have : k = L.length := by omega
    subst this
    refine G.exit ?_
    obtain ⟨q, hq⟩ : ∃ q, (homL L).length = q + 1 := ⟨(homL L).length - 1, by rw [homL_len]; omega⟩
    rw [← homL_len L] at hcp ⊢
    rw [hq]
    rw [hq] at hcp
    refine G.weaken (st' := St.of [(3, .v (.c (.slc 20 0 2 (q + 1) cp)))] [(20, .arr 106 2 (q + 1) (elC (homL L) vs) ((cp - (q + 1)) * 2))]) (St.le_of rfl ⟨⟨_, rfl, Blk.le_refl _⟩, trivial⟩ ⟨rfl, trivial⟩) ?_
    rw [← hq]
    rw [← hq] at hcp
    refine G.freezeArr 20 3 rfl rfl (Nat.le_refl _) fun g hg => ?_
    have hg : w.heap.size ≤ g := hg.elim id (fun h => by cases h)
    refine G.seqR tfine rfl trivial ?_
    exact G.ret (ret_hom (X := 20) rfl hg hcp rfl fun j hj => by
      rw [homL_len] at hj
      rw [homL_at L j hj]
      exact hi j hj)
  have h2 := of_decide_eq_true h2
  have hlt : k < L.length := by omega
  obtain ⟨A1, c1, hv, _⟩ := hi k hlt
  refine G.skip ?_
  refine G.seq ?_
  refine G.block ?_
  refine G.region_lit ?_
  refine GO.moveAny tfine rfl (.inl rfl) rfl rfl rfl ?_
  refine GO.firstN tfine 5 rfl ⟨by omega, by omega, by omega, trivial⟩ ?_
  rw [Int.toNat_natCast, hv]
  refine GO.more tfine rfl trivial ?_
  refine GO.appendAccAB (n := k) (c := cp) (el := elC (homL L) vs) [.slice A1 (cAt L k).1.length c1, I 0] [(0, .v (.c (.inp 1000 A L.length c))), (4, .v (.c (.k (I k))))] [(1000, .ro 2 L.length (elC L vs))] apRe rfl rfl rfl rfl rfl rfl rfl rfl rfl rfl (fun u hu => by simp at hu; rcases hu with rfl | rfl <;> rfl)
    (St.le_of rfl ⟨⟨_, rfl, Blk.le_refl _⟩, trivial⟩ ⟨rfl, rfl, trivial⟩) (subM.fr ⟨rfl, nx rfl, trivial⟩) (fun k hk => rfl) (by unfold maxLen; omega) (by omega) fun c' hc' => ?_
  refine GO.fin tfine rfl trivial ?_
  refine G.reg tfine rfl trivial ?_
  rw [IntWalk.i64_in ((k : Int) + 1) (by omega)]
  refine ⟨(k + 1, c'), ⟨by simp only; omega, hc'⟩, (by show L.length - (k + 1) < L.length - k; omega), ?_⟩
  refine St.le_of rfl ⟨⟨_, rfl, rfl, rfl, Nat.le_refl _, (fun j hj => ?_), Nat.le_refl _⟩, ⟨_, rfl, Blk.le_refl _⟩, trivial⟩ ⟨rfl, rfl, by simp [up, I], trivial⟩
  by_cases e : j = k
  · subst e
    rw [elN_eq, elC, homL_at L j hlt, hv]
  · rw [elN_lt (by omega)]
end Go.Proofs.Ytafhnfcahhlanaa
/- Chapter 27: the reference's Verify. -/
set_option linter.unusedVariables false
set_option linter.unusedSimpArgs false
set_option maxRecDepth 8000
set_option maxHeartbeats 4000000
namespace Go.Proofs.Ytafhnfcahhlanaa
open Go.Sx Go.RowKit
theorem refNone_any (rv : Value) (r : Rat) (w : World) (hr : RatAt w rv r) : Calls Try.prog 62 #[rv] w fun e w' => e = .returned (.bool (noneM r)) ∧ Below w.heap.size w w' := by
  obtain ⟨nv, rfl, ⟨Ax, cx, rfl, hAx, hcx⟩⟩ := hr
  refine enterSay [] [.agg [.k (.slice Ax r.1.length cx), .k (I r.2)]] [] Try.func62 rfl 12 Try.ntmps62 rfl rfl ⟨⟨trivial, trivial, trivial⟩, trivial⟩ trivial ?_
  refine G.seqR tfine rfl trivial ?_
  refine G.seqR tfine rfl ?_ ?_
  · first | trivial | (simp [AllP, condB]; done) | (simp only [AllP]; and_intros <;> first | trivial | decide | omega) | (simp [AllP, condB]; intros; and_intros <;> first | assumption | omega) | (simp [AllP, condB]; intros; simp_all; done)
  exact G.ret (retK.plain tfine rfl rfl)
/-- what the reference's Verify computes -/
def rgt (r : Rat) (n : Nat) : Bool := ((r.1.length : Int) == (n : Int)) && inM r.1 r.2
def at2 (p : Prob) (s : Sol) : Bool := rgt s.at_ p.obj.length && keepsM (primalM p 1) s.at_.1 s.at_.2
def k1 (p : Prob) (s : Sol) : Bool := (s.kind == 1) && at2 p s && rgt s.proof p.rows.length && ((s.dir.length : Int) == 0)
def v1 (p : Prob) (s : Sol) : Bool := keepsM (dualM p 1) s.proof.1 s.proof.2 && (cmpM (dotL p.obj s.at_.1) s.at_.2 (dotL p.lim s.proof.1) s.proof.2 == 0)
def o1 (p : Prob) (s : Sol) : Bool := if k1 p s = true then v1 p s else false
def k2 (p : Prob) (s : Sol) : Bool := (s.kind == 2) && rgt s.proof p.rows.length && noneM s.at_ && ((s.dir.length : Int) == 0)
def v2 (p : Prob) (s : Sol) : Bool := keepsM (dualM p 0) s.proof.1 s.proof.2 && decide (dotL p.lim s.proof.1 < 0)
def o2 (p : Prob) (s : Sol) : Bool := if k2 p s = true then v2 p s else o1 p s
def k3 (p : Prob) (s : Sol) : Bool := (s.kind == 3) && at2 p s && noneM s.proof && rgt (s.dir, 1) p.obj.length
def v3 (p : Prob) (s : Sol) : Bool := keepsM (primalM p 0) s.dir 1 && decide (dotL p.obj s.dir > 0)
def o3 (p : Prob) (s : Sol) : Bool := if k3 p s = true then v3 p s else o2 p s
theorem rgt_len {r : Rat} {n : Nat} (h : rgt r n = true) : r.1.length = n ∧ inM r.1 r.2 = true := by
  rw [rgt, Bool.and_eq_true] at h
  have h1 : (r.1.length : Int) = (n : Int) := by simpa using h.1
  exact ⟨by omega, h.2⟩
theorem dot_small {a b : List Int} {n : Nat} (hn : n ≤ 8) (ha : a.length = n) (hb : b.length = n) (h1 : ∀ k, k < n → -1000 ≤ a.getD k 0 ∧ a.getD k 0 ≤ 1000) (h2 : ∀ k, k < n → -35184372088832 ≤ b.getD k 0 ∧ b.getD k 0 ≤ 35184372088832) : -4611686018427387904 < dotL a b ∧ dotL a b < 4611686018427387904 := by
  have h := dotN_bound (a := fun k => a.getD k 0) (b := fun k => b.getD k 0) (A := 1000) (B := 35184372088832) (by decide) (by decide) n hn fun k hk => ⟨h1 k hk, h2 k hk⟩
  rw [dotL, ha]
  omega
theorem refVerify_any (p : Prob) (pv sv : Value) (vs0 : Nat → Value) (s : Sol) (w : World) (hp : ProbAt w pv p vs0) (hs : SolAt w sv s) (h1 : p.obj.length ≤ 100000) (h2 : p.rows.length ≤ 100000) (h3 : p.lim.length ≤ 100000) (h4 : ∀ r ∈ p.rows, r.length ≤ 100000)
    (g1 : s.at_.1.length ≤ 100000) (g2 : s.proof.1.length ≤ 100000) (g3 : s.dir.length ≤ 100000) :
    Calls Try.prog 18 #[pv, sv] w fun e w' => e = .returned (I (if checkM p ≠ 0 then 1 else if o3 p s = true then 0 else 14)) ∧ Below w.heap.size w w' := by
  have hp0 := hp
  obtain ⟨ov, rv, lv, rfl, ⟨Ao, co, rfl, ho, hoc⟩, ⟨Ar, cr, rfl, hr, hrc, hri⟩, ⟨Al, cl, rfl, hl, hlc⟩⟩ := hp
  obtain ⟨v1', v2', v3', rfl, ⟨A1, c1, rfl, ha1, ha1c⟩, ⟨A2, c2, rfl, ha2, ha2c⟩, ⟨A3, c3, rfl, ha3, ha3c⟩⟩ := hs
  have r1 : ∀ {w1}, Below w.heap.size w w1 → RatAt w1 (.agg #[.slice A1 s.at_.1.length c1, I s.at_.2]) s.at_ := fun hb => ⟨_, rfl, ⟨A1, c1, rfl, ha1.below hb, ha1c⟩⟩
  have r2 : ∀ {w1}, Below w.heap.size w w1 → RatAt w1 (.agg #[.slice A2 s.proof.1.length c2, I s.proof.2]) s.proof := fun hb => ⟨_, rfl, ⟨A2, c2, rfl, ha2.below hb, ha2c⟩⟩
  have r3 : ∀ {w1}, Below w.heap.size w w1 → RatAt w1 (.agg #[.slice A3 s.dir.length c3, I 1]) (s.dir, 1) := fun hb => ⟨_, rfl, ⟨A3, c3, rfl, ha3.below hb, ha3c⟩⟩
  refine enterSay [] [.agg [.k (.slice Ao p.obj.length co), .k (.slice Ar p.rows.length cr), .k (.slice Al p.lim.length cl)], .agg [.k (I s.kind), .k (.slice A1 s.at_.1.length c1), .k (I s.at_.2), .k (.slice A2 s.proof.1.length c2), .k (I s.proof.2), .k (.slice A3 s.dir.length c3)]] [] Try.func18 rfl 144 Try.ntmps18 rfl rfl ⟨⟨trivial, trivial, trivial, trivial⟩, ⟨trivial, trivial, trivial, trivial, trivial, trivial, trivial⟩, trivial⟩ trivial ?_
  refine G.seqR tfine rfl trivial ?_
  refine G.seq ?_
  refine G.seqC tfine rfl trivial ?_
  refine GO.callPlain (v := I (checkM p)) rfl rfl rfl rfl (fun args w => Try.call14 args w) (fun ρ w1 hs hok => refCheck_any p _ vs0 w1 (hp0.below hs.fr.toBelow) h1 h2 h3 h4) ?_
  refine GO.fin tfine rfl trivial ?_
  refine G.cond (b := checkM p != 0) rfl (fun h => ?_) (fun h => ?_)
  · have h : checkM p ≠ 0 := by simpa using h
    refine G.seqR tfine rfl trivial ?_
    exact G.ret (retK.plain tfine rfl (by rw [if_pos h]))
  have hc0 : checkM p = 0 := by simpa using h
  rw [if_neg (by omega)]
  obtain ⟨n0, n3, m4, hll, hrw⟩ := check_ok hc0
  obtain ⟨hobj, hlim⟩ := check_obj hc0
  have hob : ∀ k, k < p.obj.length → W (1 * p.obj.getD k 0) = p.obj.getD k 0 := fun k hk => by
    have := hobj k hk
    rw [Int.one_mul]
    exact IntWalk.i64_in _ (by omega)
  refine G.skip ?_
  refine G.seqD tfine hmix [0, 1, 3, 0, 8, 24, 7, 127] [] rfl rfl rfl rfl trivial ?_
  refine G.seq ?_
  apply G.drawC (ch := fun j => match j with | 6 => some (sayG 824 4 true (rgt s.at_ p.obj.length) (fun u => .c (.k (slV (primalM p 1).length u))) (fun u => u.2) (conR (primalM p 1))) | _ => none) (cls := [0, 1, 0, 7, 15, 31, 63, 31, 159, 511, 1023, 2047]) (X := [(6, 824)]) hmix rfl rfl rfl
  · intro c
    refine GC.more tfine 0 rfl rfl rfl trivial ?_
    refine GC.step 3 rfl rfl (tv := toTV (.bool (rgt s.at_ p.obj.length))) (ms := []) (Steps.callPlain rfl rfl rfl rfl (fun args w => Try.call59 args w) (fun m' hle ρ w1 hs hok => right_any _ s.at_ w1 (r1 hs.fr.toBelow) g1 p.obj.length)) rfl ?_
    refine GC.more tfine 4 rfl rfl rfl ?_ ?_
    · first | trivial | (simp [AllP, condB]; done) | (simp only [AllP]; and_intros <;> first | trivial | decide | omega) | (simp [AllP, condB]; intros; and_intros <;> first | assumption | omega) | (simp [AllP, condB]; intros; simp_all; done)
    refine GC.choice 6 rfl _ rfl (StepsC.callSayG 824 (fun u => .c (.k (slV (primalM p 1).length u))) (fun u => u.2) (conR (primalM p 1)) rfl rfl (by first | exact trivial | exact ⟨id, trivial⟩ | exact ⟨id, id, trivial⟩ | exact ⟨id, id, id, trivial⟩ | exact ⟨id, id, id, id, trivial⟩) rfl rfl rfl rfl (fun args w => Try.call42 args w) (fun u ρ m => ⟨trivial, rfl⟩) (fun hct m' hle ρ w1 hs hok => refPrimal_cho p _ vs0 w1 (hp0.below hs.fr.toBelow) n0 (by omega) (by omega) hll hrw)) rfl sayG_nm rfl ?_
    refine GC.more tfine 7 rfl rfl rfl ?_ ?_
    · first | trivial | (simp [AllP, condB]; done) | (simp only [AllP]; and_intros <;> first | trivial | decide | omega) | (simp [AllP, condB]; intros; and_intros <;> first | assumption | omega) | (simp [AllP, condB]; intros; simp_all; done)
    refine GC.step 9 rfl rfl (Steps.callGuard (v := .bool (keepsM (primalM p 1) s.at_.1 s.at_.2)) rfl rfl rfl (by first | exact trivial | exact ⟨id, trivial⟩ | exact ⟨id, id, trivial⟩ | exact ⟨id, id, id, trivial⟩ | exact ⟨id, id, id, id, trivial⟩) rfl rfl (fun args w => Try.call60 args w) rfl (fun hct m' hle ρ w1 hs hok => ?_)) rfl ?_
    · obtain ⟨us, hc, _⟩ := (hs.ok 824 _ (hle.at rfl)).1 hct
      exact refKeeps_any (slV (primalM p 1).length (c 6)) (primalM p 1) us A1 c1 s.at_.1 s.at_.2 w1 hc (ha1.below hs.fr.toBelow) (fun i hi => by rw [primalM_rows p 1 hrw _ (cAt_mem hi), (rgt_len hct).1]; exact Nat.le_refl _) g1 (by rw [primalM_len]; omega)
    refine GC.more tfine 10 rfl rfl rfl ?_ ?_
    · first | trivial | (simp [AllP, condB]; done) | (simp only [AllP]; and_intros <;> first | trivial | decide | omega) | (simp [AllP, condB]; intros; and_intros <;> first | assumption | omega) | (simp [AllP, condB]; intros; simp_all; done)
    refine GC.nil ?_
    refine G.weaken (st' := St.of [(2, .v (.c (.ptr 2 0 0 0))), (3, .v (.c (.ptr 3 0 0 0))), (5, .v (.c (.k (I p.obj.length)))), (6, .v (.c (.k (I p.rows.length)))), (7, .v (.c (.k (.bool (at2 p s)))))] [(2, .var 25 [.k (.slice Ao p.obj.length co), .k (.slice Ar p.rows.length cr), .k (.slice Al p.lim.length cl)]), (3, .var 31 [.k (I s.kind), .k (.slice A1 s.at_.1.length c1), .k (I s.at_.2), .k (.slice A2 s.proof.1.length c2), .k (I s.proof.2), .k (.slice A3 s.dir.length c3)])]) (St.le_of rfl ⟨⟨_, rfl, Blk.le_refl _⟩, ⟨_, rfl, Blk.le_refl _⟩, trivial⟩ ⟨rfl, rfl, rfl, rfl, rfl, trivial⟩) ?_
    refine G.seqR tfine rfl trivial ?_
    refine G.join (fun _ : Unit => St.of [(2, .v (.c (.ptr 2 0 0 0))), (3, .v (.c (.ptr 3 0 0 0))), (5, .v (.c (.k (I p.obj.length)))), (6, .v (.c (.k (I p.rows.length)))), (7, .v (.c (.k (.bool (at2 p s))))), (8, .v (.c (.k (.bool (o1 p s)))))] [(2, .var 25 [.k (.slice Ao p.obj.length co), .k (.slice Ar p.rows.length cr), .k (.slice Al p.lim.length cl)]), (3, .var 31 [.k (I s.kind), .k (.slice A1 s.at_.1.length c1), .k (I s.at_.2), .k (.slice A2 s.proof.1.length c2), .k (I s.proof.2), .k (.slice A3 s.dir.length c3)])]) (fun _ => True) ?_ ?_
    · refine G.seqC tfine rfl ?_ ?_
      · first | trivial | (simp [AllP, condB]; done) | (simp only [AllP]; and_intros <;> first | trivial | decide | omega) | (simp [AllP, condB]; intros; and_intros <;> first | assumption | omega) | (simp [AllP, condB]; intros; simp_all; done)
      refine GO.callGuard (.bool (rgt s.proof p.rows.length)) rfl rfl rfl (by first | exact trivial | exact ⟨id, trivial⟩ | exact ⟨id, id, trivial⟩ | exact ⟨id, id, id, trivial⟩ | exact ⟨id, id, id, id, trivial⟩) rfl rfl (fun args w => Try.call59 args w) rfl (fun hct m' hle ρ w1 hs hok => right_any _ s.proof w1 (r2 hs.fr.toBelow) g2 p.rows.length) ?_
      refine GO.fin tfine rfl ?_ ?_
      · first | trivial | (simp [AllP, condB]; done) | (simp only [AllP]; and_intros <;> first | trivial | decide | omega) | (simp [AllP, condB]; intros; and_intros <;> first | assumption | omega) | (simp [AllP, condB]; intros; simp_all; done)
      refine G.cond (b := k1 p s) rfl (fun h => ?_) (fun h => ?_)
      · have ho1 : o1 p s = v1 p s := by rw [o1, if_pos h]
        rw [ho1]
        rw [k1, Bool.and_eq_true, Bool.and_eq_true, Bool.and_eq_true] at h
        obtain ⟨⟨⟨_, hat⟩, hpr⟩, _⟩ := h
        rw [at2, Bool.and_eq_true] at hat
        obtain ⟨la, ia⟩ := rgt_len hat.1
        obtain ⟨lb, ib⟩ := rgt_len hpr
        obtain ⟨ov1, ov2⟩ := inM_over ia
        obtain ⟨ov3, ov4⟩ := inM_over ib
        have ds1 := dot_small (a := p.obj) (b := s.at_.1) (n := p.obj.length) (by omega) rfl la hobj (fun k hk => inM_nums ia k (by omega))
        have ds2 := dot_small (a := p.lim) (b := s.proof.1) (n := p.rows.length) (by omega) hll lb (fun k hk => hlim k (by omega)) (fun k hk => inM_nums ib k (by omega))
        apply G.drawC (ch := fun j => match j with | 1 => some (sayF 848 (fun u => slV (dualM p 1).length u) (fun u => u.2) (conR (dualM p 1))) | _ => none) (cls := [0, 1, 0, 4, 15, 31, 63, 127, 63, 319, 831, 2047, 63, 4159, 12351, 63, 32831, 63, 131135, 393279, 1019903, 63, 2097215, 6291519, 16777215, 33554431, 67108863, 134217727]) (X := [(1, 848)]) hmix rfl rfl rfl
        · intro c
          refine GC.more tfine 0 rfl rfl rfl trivial ?_
          refine GC.choice 1 rfl _ rfl (StepsC.callSay 848 (fun u => slV (dualM p 1).length u) (fun u => u.2) (conR (dualM p 1)) rfl rfl rfl rfl rfl (fun args w => Try.call45 args w) (fun m' hle ρ w1 hs hok => refDual_cho p _ vs0 w1 (hp0.below hs.fr.toBelow) n0 (by omega) (by omega) hrw hob)) rfl sayF_nm rfl ?_
          refine GC.more tfine 2 rfl rfl rfl trivial ?_
          refine GC.step 4 rfl rfl (tv := toTV (.bool (keepsM (dualM p 1) s.proof.1 s.proof.2))) (ms := []) (Steps.callPlain rfl rfl rfl rfl (fun args w => Try.call60 args w) (fun m' hle ρ w1 hs hok => ?_)) rfl ?_
          · obtain ⟨us, hc, _⟩ := (hs.ok 848 _ (hle.at rfl)).1
            exact refKeeps_any (slV (dualM p 1).length (c 1)) (dualM p 1) us A2 c2 s.proof.1 s.proof.2 w1 hc (ha2.below hs.fr.toBelow) (fun i hi => by rw [dualM_rows p 1 _ (cAt_mem hi), lb]; exact Nat.le_refl _) g2 (by rw [dualM_len]; omega)
          refine GC.more tfine 5 rfl rfl rfl ?_ ?_
          · first | trivial | (simp [AllP, condB]; done) | (simp only [AllP]; and_intros <;> first | trivial | decide | omega) | (simp [AllP, condB]; intros; and_intros <;> first | assumption | omega) | (simp [AllP, condB]; intros; simp_all; done)
          refine GC.step 11 rfl rfl (Steps.callGuard (v := I (dotL p.obj s.at_.1)) rfl rfl rfl (by first | exact trivial | exact ⟨id, trivial⟩ | exact ⟨id, id, trivial⟩ | exact ⟨id, id, id, trivial⟩ | exact ⟨id, id, id, id, trivial⟩) rfl rfl (fun args w => Try.call61 args w) rfl (fun hct m' hle ρ w1 hs hok => refDot_any Ao A1 co c1 p.obj s.at_.1 w1 (ho.below hs.fr.toBelow) (ha1.below hs.fr.toBelow) (by omega) (by omega))) rfl ?_
          refine GC.more tfine 12 rfl rfl rfl ?_ ?_
          · first | trivial | (simp [AllP, condB]; done) | (simp only [AllP]; and_intros <;> first | trivial | decide | omega) | (simp [AllP, condB]; intros; and_intros <;> first | assumption | omega) | (simp [AllP, condB]; intros; simp_all; done)
          refine GC.step 20 rfl rfl (Steps.callGuard (v := I (dotL p.lim s.proof.1)) rfl rfl rfl (by first | exact trivial | exact ⟨id, trivial⟩ | exact ⟨id, id, trivial⟩ | exact ⟨id, id, id, trivial⟩ | exact ⟨id, id, id, id, trivial⟩) rfl rfl (fun args w => Try.call61 args w) rfl (fun hct m' hle ρ w1 hs hok => refDot_any Al A2 cl c2 p.lim s.proof.1 w1 (hl.below hs.fr.toBelow) (ha2.below hs.fr.toBelow) (by omega) (by omega))) rfl ?_
          refine GC.more tfine 21 rfl rfl rfl ?_ ?_
          · first | trivial | (simp [AllP, condB]; done) | (simp only [AllP]; and_intros <;> first | trivial | decide | omega) | (simp [AllP, condB]; intros; and_intros <;> first | assumption | omega) | (simp [AllP, condB]; intros; simp_all; done)
          refine GC.step 24 rfl rfl (Steps.callGuard (v := I (cmpM (dotL p.obj s.at_.1) s.at_.2 (dotL p.lim s.proof.1) s.proof.2)) rfl rfl rfl (by first | exact trivial | exact ⟨id, trivial⟩ | exact ⟨id, id, trivial⟩ | exact ⟨id, id, id, trivial⟩ | exact ⟨id, id, id, id, trivial⟩) rfl rfl (fun args w => Try.call24 args w) rfl (fun hct m' hle ρ w1 hs hok => refCmp_any _ _ _ _ ds1.1 ds1.2 (by omega) (by omega) ds2.1 ds2.2 (by omega) (by omega) w1)) rfl ?_
          refine GC.more tfine 25 rfl rfl rfl ?_ ?_
          · first | trivial | (simp [AllP, condB]; done) | (simp only [AllP]; and_intros <;> first | trivial | decide | omega) | (simp [AllP, condB]; intros; and_intros <;> first | assumption | omega) | (simp [AllP, condB]; intros; simp_all; done)
          refine GC.nil ?_
          exact ⟨(), trivial, St.le_of rfl ⟨⟨_, rfl, Blk.le_refl _⟩, ⟨_, rfl, Blk.le_refl _⟩, trivial⟩ ⟨rfl, rfl, rfl, rfl, rfl, rfl, trivial⟩⟩
        ·
          intro c c' j hj h
          have hj : j < 28 := hj
          match j, hj, h with
          | 0, _, h => first | rfl | (show some _ = some _; done)
          | 1, _, h => first | rfl | (show some _ = some _; (try rw [h 1 (.inl rfl)]); (try rw [h 1 (.inr ⟨rfl, rfl⟩)]); done)
          | 2, _, h => first | rfl | (show some _ = some _; (try rw [h 1 (.inl rfl)]); (try rw [h 1 (.inr ⟨rfl, rfl⟩)]); done)
          | 3, _, h => first | rfl | (show some _ = some _; (try rw [h 1 (.inl rfl)]); (try rw [h 1 (.inr ⟨rfl, rfl⟩)]); done)
          | 4, _, h => first | rfl | (show some _ = some _; (try rw [h 1 (.inl rfl)]); (try rw [h 1 (.inr ⟨rfl, rfl⟩)]); done)
          | 5, _, h => first | rfl | (show some _ = some _; (try rw [h 1 (.inl rfl)]); (try rw [h 1 (.inr ⟨rfl, rfl⟩)]); done)
          | 6, _, h => first | rfl | (show some _ = some _; (try rw [h 1 (.inl rfl)]); (try rw [h 1 (.inr ⟨rfl, rfl⟩)]); done)
          | 7, _, h => first | rfl | (show some _ = some _; (try rw [h 1 (.inl rfl)]); (try rw [h 1 (.inr ⟨rfl, rfl⟩)]); done)
          | 8, _, h => first | rfl | (show some _ = some _; (try rw [h 1 (.inl rfl)]); (try rw [h 1 (.inr ⟨rfl, rfl⟩)]); done)
          | 9, _, h => first | rfl | (show some _ = some _; (try rw [h 1 (.inl rfl)]); (try rw [h 1 (.inr ⟨rfl, rfl⟩)]); done)
          | 10, _, h => first | rfl | (show some _ = some _; (try rw [h 1 (.inl rfl)]); (try rw [h 1 (.inr ⟨rfl, rfl⟩)]); done)
          | 11, _, h => first | rfl | (show some _ = some _; (try rw [h 1 (.inl rfl)]); (try rw [h 1 (.inr ⟨rfl, rfl⟩)]); done)
          | 12, _, h => first | rfl | (show some _ = some _; (try rw [h 1 (.inl rfl)]); (try rw [h 1 (.inr ⟨rfl, rfl⟩)]); done)
          | 13, _, h => first | rfl | (show some _ = some _; (try rw [h 1 (.inl rfl)]); (try rw [h 1 (.inr ⟨rfl, rfl⟩)]); done)
          | 14, _, h => first | rfl | (show some _ = some _; (try rw [h 1 (.inl rfl)]); (try rw [h 1 (.inr ⟨rfl, rfl⟩)]); done)
          | 15, _, h => first | rfl | (show some _ = some _; (try rw [h 1 (.inl rfl)]); (try rw [h 1 (.inr ⟨rfl, rfl⟩)]); done)
          | 16, _, h => first | rfl | (show some _ = some _; (try rw [h 1 (.inl rfl)]); (try rw [h 1 (.inr ⟨rfl, rfl⟩)]); done)
          | 17, _, h => first | rfl | (show some _ = some _; (try rw [h 1 (.inl rfl)]); (try rw [h 1 (.inr ⟨rfl, rfl⟩)]); done)
          | 18, _, h => first | rfl | (show some _ = some _; (try rw [h 1 (.inl rfl)]); (try rw [h 1 (.inr ⟨rfl, rfl⟩)]); done)
          | 19, _, h => first | rfl | (show some _ = some _; (try rw [h 1 (.inl rfl)]); (try rw [h 1 (.inr ⟨rfl, rfl⟩)]); done)
          | 20, _, h => first | rfl | (show some _ = some _; (try rw [h 1 (.inl rfl)]); (try rw [h 1 (.inr ⟨rfl, rfl⟩)]); done)
          | 21, _, h => first | rfl | (show some _ = some _; (try rw [h 1 (.inl rfl)]); (try rw [h 1 (.inr ⟨rfl, rfl⟩)]); done)
          | 22, _, h => first | rfl | (show some _ = some _; (try rw [h 1 (.inl rfl)]); (try rw [h 1 (.inr ⟨rfl, rfl⟩)]); done)
          | 23, _, h => first | rfl | (show some _ = some _; (try rw [h 1 (.inl rfl)]); (try rw [h 1 (.inr ⟨rfl, rfl⟩)]); done)
          | 24, _, h => first | rfl | (show some _ = some _; (try rw [h 1 (.inl rfl)]); (try rw [h 1 (.inr ⟨rfl, rfl⟩)]); done)
          | 25, _, h => first | rfl | (show some _ = some _; (try rw [h 1 (.inl rfl)]); (try rw [h 1 (.inr ⟨rfl, rfl⟩)]); done)
          | 26, _, h => first | rfl | (show some _ = some _; (try rw [h 1 (.inl rfl)]); (try rw [h 1 (.inr ⟨rfl, rfl⟩)]); done)
          | 27, _, h => first | rfl | (show some _ = some _; (try rw [h 1 (.inl rfl)]); (try rw [h 1 (.inr ⟨rfl, rfl⟩)]); done)
          | q + 28, hj, h => exact absurd hj (by omega)
      · refine G.skip ?_
        exact ⟨(), trivial, St.le_of rfl ⟨⟨_, rfl, Blk.le_refl _⟩, ⟨_, rfl, Blk.le_refl _⟩, trivial⟩ ⟨rfl, rfl, rfl, rfl, rfl, by rw [o1, if_neg (by rw [h]; decide)]; rfl, trivial⟩⟩
    rintro _ _
    show G _ _ _ _ (St.of [(2, .v (.c (.ptr 2 0 0 0))), (3, .v (.c (.ptr 3 0 0 0))), (5, .v (.c (.k (I p.obj.length)))), (6, .v (.c (.k (I p.rows.length)))), (7, .v (.c (.k (.bool (at2 p s))))), (8, .v (.c (.k (.bool (o1 p s)))))] [(2, .var 25 [.k (.slice Ao p.obj.length co), .k (.slice Ar p.rows.length cr), .k (.slice Al p.lim.length cl)]), (3, .var 31 [.k (I s.kind), .k (.slice A1 s.at_.1.length c1), .k (I s.at_.2), .k (.slice A2 s.proof.1.length c2), .k (I s.proof.2), .k (.slice A3 s.dir.length c3)])])
    refine G.join (fun _ : Unit => St.of [(2, .v (.c (.ptr 2 0 0 0))), (3, .v (.c (.ptr 3 0 0 0))), (5, .v (.c (.k (I p.obj.length)))), (6, .v (.c (.k (I p.rows.length)))), (7, .v (.c (.k (.bool (at2 p s))))), (8, .v (.c (.k (.bool (o2 p s)))))] [(2, .var 25 [.k (.slice Ao p.obj.length co), .k (.slice Ar p.rows.length cr), .k (.slice Al p.lim.length cl)]), (3, .var 31 [.k (I s.kind), .k (.slice A1 s.at_.1.length c1), .k (I s.at_.2), .k (.slice A2 s.proof.1.length c2), .k (I s.proof.2), .k (.slice A3 s.dir.length c3)])]) (fun _ => True) ?_ ?_
    · refine G.seqC tfine rfl ?_ ?_
      · first | trivial | (simp [AllP, condB]; done) | (simp only [AllP]; and_intros <;> first | trivial | decide | omega) | (simp [AllP, condB]; intros; and_intros <;> first | assumption | omega) | (simp [AllP, condB]; intros; simp_all; done)
      refine GO.callGuard (.bool (rgt s.proof p.rows.length)) rfl rfl rfl (by first | exact trivial | exact ⟨id, trivial⟩ | exact ⟨id, id, trivial⟩ | exact ⟨id, id, id, trivial⟩ | exact ⟨id, id, id, id, trivial⟩) rfl rfl (fun args w => Try.call59 args w) rfl (fun hct m' hle ρ w1 hs hok => right_any _ s.proof w1 (r2 hs.fr.toBelow) g2 p.rows.length) ?_
      refine GO.more tfine rfl ?_ ?_
      · first | trivial | (simp [AllP, condB]; done) | (simp only [AllP]; and_intros <;> first | trivial | decide | omega) | (simp [AllP, condB]; intros; and_intros <;> first | assumption | omega) | (simp [AllP, condB]; intros; simp_all; done)
      refine GO.callGuard (.bool (noneM s.at_)) rfl rfl rfl (by first | exact trivial | exact ⟨id, trivial⟩ | exact ⟨id, id, trivial⟩ | exact ⟨id, id, id, trivial⟩ | exact ⟨id, id, id, id, trivial⟩) rfl rfl (fun args w => Try.call62 args w) rfl (fun hct m' hle ρ w1 hs hok => refNone_any _ s.at_ w1 (r1 hs.fr.toBelow)) ?_
      refine GO.fin tfine rfl ?_ ?_
      · first | trivial | (simp [AllP, condB]; done) | (simp only [AllP]; and_intros <;> first | trivial | decide | omega) | (simp [AllP, condB]; intros; and_intros <;> first | assumption | omega) | (simp [AllP, condB]; intros; simp_all; done)
      refine G.cond (b := k2 p s) rfl (fun h => ?_) (fun h => ?_)
      · have ho1 : o2 p s = v2 p s := by rw [o2, if_pos h]
        rw [ho1]
        rw [k2, Bool.and_eq_true, Bool.and_eq_true, Bool.and_eq_true] at h
        obtain ⟨⟨⟨_, hpr⟩, _⟩, _⟩ := h
        obtain ⟨lb, ib⟩ := rgt_len hpr
        apply G.drawC (ch := fun j => match j with | 1 => some (sayF 895 (fun u => slV (dualM p 1).length u) (fun u => u.2) (conR (dualM p 1))) | 2 => some (sayF 896 (fun u => slV (homL (dualM p 1)).length u) (fun u => u.2) (conR (homL (dualM p 1)))) | _ => none) (cls := [0, 1, 3, 0, 8, 31, 63, 127, 255, 127, 639, 1663, 4095, 8191, 16383, 32767]) (X := [(1, 895), (2, 896)]) hmix rfl rfl rfl
        · intro c
          refine GC.more tfine 0 rfl rfl rfl trivial ?_
          refine GC.choice 1 rfl _ rfl (StepsC.callSay 895 (fun u => slV (dualM p 1).length u) (fun u => u.2) (conR (dualM p 1)) rfl rfl rfl rfl rfl (fun args w => Try.call45 args w) (fun m' hle ρ w1 hs hok => refDual_cho p _ vs0 w1 (hp0.below hs.fr.toBelow) n0 (by omega) (by omega) hrw hob)) rfl sayF_nm rfl ?_
          refine GC.choice 2 rfl _ rfl (StepsC.callSayX 895 896 (fun u => slV (homL (dualM p 1)).length u) (fun u => u.2) (conR (homL (dualM p 1))) rfl rfl rfl rfl rfl rfl (fun args w => Try.call63 args w) (fun m' hle ρ w1 hs hok => ?_)) rfl sayF_nm rfl ?_
          · obtain ⟨us, hc, hu1, hu2⟩ := (hs.ok 895 _ (hle.at rfl)).1
            refine (refHom_any (slV (dualM p 1).length (c 1)) (dualM p 1) us w1 hc (by rw [dualM_len]; omega) (by rw [dualM_len]; omega)).mono ?_
            rintro e w' ⟨u, h1, h2, h3, h4, h5⟩
            exact ⟨u, h1, h2, h3, fun k hk => ⟨(h4 k hk).1.imp id fun ⟨j, hj, hk⟩ => hu2 j (by rw [← homL_len]; exact hj) k hk, (h4 k hk).2⟩, h5⟩
          refine GC.more tfine 3 rfl rfl rfl trivial ?_
          refine GC.step 5 rfl rfl (tv := toTV (.bool (keepsM (homL (dualM p 1)) s.proof.1 s.proof.2))) (ms := []) (Steps.callPlain rfl rfl rfl rfl (fun args w => Try.call60 args w) (fun m' hle ρ w1 hs hok => ?_)) rfl ?_
          · obtain ⟨us, hc, _⟩ := (hs.ok 896 _ (hle.at rfl)).1
            exact refKeeps_any (slV (homL (dualM p 1)).length (c 2)) (homL (dualM p 1)) us A2 c2 s.proof.1 s.proof.2 w1 hc (ha2.below hs.fr.toBelow) (fun i hi => by rw [homL_len] at hi; rw [homL_at _ i hi, dualM_rows p 1 _ (cAt_mem hi), lb]; exact Nat.le_refl _) g2 (by rw [homL_len, dualM_len]; omega)
          refine GC.more tfine 6 rfl rfl rfl ?_ ?_
          · first | trivial | (simp [AllP, condB]; done) | (simp only [AllP]; and_intros <;> first | trivial | decide | omega) | (simp [AllP, condB]; intros; and_intros <;> first | assumption | omega) | (simp [AllP, condB]; intros; simp_all; done)
          refine GC.step 12 rfl rfl (Steps.callGuard (v := I (dotL p.lim s.proof.1)) rfl rfl rfl (by first | exact trivial | exact ⟨id, trivial⟩ | exact ⟨id, id, trivial⟩ | exact ⟨id, id, id, trivial⟩ | exact ⟨id, id, id, id, trivial⟩) rfl rfl (fun args w => Try.call61 args w) rfl (fun hct m' hle ρ w1 hs hok => refDot_any Al A2 cl c2 p.lim s.proof.1 w1 (hl.below hs.fr.toBelow) (ha2.below hs.fr.toBelow) (by omega) (by omega))) rfl ?_
          refine GC.more tfine 13 rfl rfl rfl ?_ ?_
          · first | trivial | (simp [AllP, condB]; done) | (simp only [AllP]; and_intros <;> first | trivial | decide | omega) | (simp [AllP, condB]; intros; and_intros <;> first | assumption | omega) | (simp [AllP, condB]; intros; simp_all; done)
          refine GC.nil ?_
          exact ⟨(), trivial, St.le_of rfl ⟨⟨_, rfl, Blk.le_refl _⟩, ⟨_, rfl, Blk.le_refl _⟩, trivial⟩ ⟨rfl, rfl, rfl, rfl, rfl, by rw [v2, ← homL_dual]; rfl, trivial⟩⟩
        ·
          intro c c' j hj h
          have hj : j < 16 := hj
          match j, hj, h with
          | 0, _, h => first | rfl | (show some _ = some _; done)
          | 1, _, h => first | rfl | (show some _ = some _; (try rw [h 1 (.inl rfl)]); (try rw [h 1 (.inr ⟨rfl, rfl⟩)]); done)
          | 2, _, h => first | rfl | (show some _ = some _; (try rw [h 1 (.inl rfl)]); (try rw [h 1 (.inr ⟨rfl, rfl⟩)]); (try rw [h 2 (.inl rfl)]); (try rw [h 2 (.inr ⟨rfl, rfl⟩)]); done)
          | 3, _, h => first | rfl | (show some _ = some _; (try rw [h 1 (.inl rfl)]); (try rw [h 1 (.inr ⟨rfl, rfl⟩)]); (try rw [h 2 (.inl rfl)]); (try rw [h 2 (.inr ⟨rfl, rfl⟩)]); done)
          | 4, _, h => first | rfl | (show some _ = some _; (try rw [h 1 (.inl rfl)]); (try rw [h 1 (.inr ⟨rfl, rfl⟩)]); (try rw [h 2 (.inl rfl)]); (try rw [h 2 (.inr ⟨rfl, rfl⟩)]); done)
          | 5, _, h => first | rfl | (show some _ = some _; (try rw [h 1 (.inl rfl)]); (try rw [h 1 (.inr ⟨rfl, rfl⟩)]); (try rw [h 2 (.inl rfl)]); (try rw [h 2 (.inr ⟨rfl, rfl⟩)]); done)
          | 6, _, h => first | rfl | (show some _ = some _; (try rw [h 1 (.inl rfl)]); (try rw [h 1 (.inr ⟨rfl, rfl⟩)]); (try rw [h 2 (.inl rfl)]); (try rw [h 2 (.inr ⟨rfl, rfl⟩)]); done)
          | 7, _, h => first | rfl | (show some _ = some _; (try rw [h 1 (.inl rfl)]); (try rw [h 1 (.inr ⟨rfl, rfl⟩)]); (try rw [h 2 (.inl rfl)]); (try rw [h 2 (.inr ⟨rfl, rfl⟩)]); done)
          | 8, _, h => first | rfl | (show some _ = some _; (try rw [h 1 (.inl rfl)]); (try rw [h 1 (.inr ⟨rfl, rfl⟩)]); (try rw [h 2 (.inl rfl)]); (try rw [h 2 (.inr ⟨rfl, rfl⟩)]); done)
          | 9, _, h => first | rfl | (show some _ = some _; (try rw [h 1 (.inl rfl)]); (try rw [h 1 (.inr ⟨rfl, rfl⟩)]); (try rw [h 2 (.inl rfl)]); (try rw [h 2 (.inr ⟨rfl, rfl⟩)]); done)
          | 10, _, h => first | rfl | (show some _ = some _; (try rw [h 1 (.inl rfl)]); (try rw [h 1 (.inr ⟨rfl, rfl⟩)]); (try rw [h 2 (.inl rfl)]); (try rw [h 2 (.inr ⟨rfl, rfl⟩)]); done)
          | 11, _, h => first | rfl | (show some _ = some _; (try rw [h 1 (.inl rfl)]); (try rw [h 1 (.inr ⟨rfl, rfl⟩)]); (try rw [h 2 (.inl rfl)]); (try rw [h 2 (.inr ⟨rfl, rfl⟩)]); done)
          | 12, _, h => first | rfl | (show some _ = some _; (try rw [h 1 (.inl rfl)]); (try rw [h 1 (.inr ⟨rfl, rfl⟩)]); (try rw [h 2 (.inl rfl)]); (try rw [h 2 (.inr ⟨rfl, rfl⟩)]); done)
          | 13, _, h => first | rfl | (show some _ = some _; (try rw [h 1 (.inl rfl)]); (try rw [h 1 (.inr ⟨rfl, rfl⟩)]); (try rw [h 2 (.inl rfl)]); (try rw [h 2 (.inr ⟨rfl, rfl⟩)]); done)
          | 14, _, h => first | rfl | (show some _ = some _; (try rw [h 1 (.inl rfl)]); (try rw [h 1 (.inr ⟨rfl, rfl⟩)]); (try rw [h 2 (.inl rfl)]); (try rw [h 2 (.inr ⟨rfl, rfl⟩)]); done)
          | 15, _, h => first | rfl | (show some _ = some _; (try rw [h 1 (.inl rfl)]); (try rw [h 1 (.inr ⟨rfl, rfl⟩)]); (try rw [h 2 (.inl rfl)]); (try rw [h 2 (.inr ⟨rfl, rfl⟩)]); done)
          | q + 16, hj, h => exact absurd hj (by omega)
      · refine G.skip ?_
        exact ⟨(), trivial, St.le_of rfl ⟨⟨_, rfl, Blk.le_refl _⟩, ⟨_, rfl, Blk.le_refl _⟩, trivial⟩ ⟨rfl, rfl, rfl, rfl, rfl, by rw [o2, if_neg (by rw [h]; decide)]; rfl, trivial⟩⟩
    rintro _ _
    show G _ _ _ _ (St.of [(2, .v (.c (.ptr 2 0 0 0))), (3, .v (.c (.ptr 3 0 0 0))), (5, .v (.c (.k (I p.obj.length)))), (6, .v (.c (.k (I p.rows.length)))), (7, .v (.c (.k (.bool (at2 p s))))), (8, .v (.c (.k (.bool (o2 p s)))))] [(2, .var 25 [.k (.slice Ao p.obj.length co), .k (.slice Ar p.rows.length cr), .k (.slice Al p.lim.length cl)]), (3, .var 31 [.k (I s.kind), .k (.slice A1 s.at_.1.length c1), .k (I s.at_.2), .k (.slice A2 s.proof.1.length c2), .k (I s.proof.2), .k (.slice A3 s.dir.length c3)])])
    refine G.join (fun _ : Unit => St.of [(2, .v (.c (.ptr 2 0 0 0))), (3, .v (.c (.ptr 3 0 0 0))), (5, .v (.c (.k (I p.obj.length)))), (6, .v (.c (.k (I p.rows.length)))), (7, .v (.c (.k (.bool (at2 p s))))), (8, .v (.c (.k (.bool (o3 p s)))))] [(2, .var 25 [.k (.slice Ao p.obj.length co), .k (.slice Ar p.rows.length cr), .k (.slice Al p.lim.length cl)]), (3, .var 31 [.k (I s.kind), .k (.slice A1 s.at_.1.length c1), .k (I s.at_.2), .k (.slice A2 s.proof.1.length c2), .k (I s.proof.2), .k (.slice A3 s.dir.length c3)])]) (fun _ => True) ?_ ?_
    · refine G.seqC tfine rfl ?_ ?_
      · first | trivial | (simp [AllP, condB]; done) | (simp only [AllP]; and_intros <;> first | trivial | decide | omega) | (simp [AllP, condB]; intros; and_intros <;> first | assumption | omega) | (simp [AllP, condB]; intros; simp_all; done)
      refine GO.callGuard (.bool (noneM s.proof)) rfl rfl rfl (by first | exact trivial | exact ⟨id, trivial⟩ | exact ⟨id, id, trivial⟩ | exact ⟨id, id, id, trivial⟩ | exact ⟨id, id, id, id, trivial⟩) rfl rfl (fun args w => Try.call62 args w) rfl (fun hct m' hle ρ w1 hs hok => refNone_any _ s.proof w1 (r2 hs.fr.toBelow)) ?_
      refine GO.more tfine rfl ?_ ?_
      · first | trivial | (simp [AllP, condB]; done) | (simp only [AllP]; and_intros <;> first | trivial | decide | omega) | (simp [AllP, condB]; intros; and_intros <;> first | assumption | omega) | (simp [AllP, condB]; intros; simp_all; done)
      refine GO.callGuard (.bool (rgt (s.dir, 1) p.obj.length)) rfl rfl rfl (by first | exact trivial | exact ⟨id, trivial⟩ | exact ⟨id, id, trivial⟩ | exact ⟨id, id, id, trivial⟩ | exact ⟨id, id, id, id, trivial⟩) rfl rfl (fun args w => Try.call59 args w) rfl (fun hct m' hle ρ w1 hs hok => right_any _ (s.dir, 1) w1 (r3 hs.fr.toBelow) g3 p.obj.length) ?_
      refine GO.fin tfine rfl ?_ ?_
      · first | trivial | (simp [AllP, condB]; done) | (simp only [AllP]; and_intros <;> first | trivial | decide | omega) | (simp [AllP, condB]; intros; and_intros <;> first | assumption | omega) | (simp [AllP, condB]; intros; simp_all; done)
      refine G.cond (b := k3 p s) rfl (fun h => ?_) (fun h => ?_)
      · have ho1 : o3 p s = v3 p s := by rw [o3, if_pos h]
        rw [ho1]
        rw [k3, Bool.and_eq_true, Bool.and_eq_true, Bool.and_eq_true] at h
        obtain ⟨⟨⟨_, _⟩, _⟩, hpr⟩ := h
        obtain ⟨lb, ib⟩ := rgt_len hpr
        have lb : s.dir.length = p.obj.length := lb
        apply G.drawC (ch := fun j => match j with | 1 => some (sayF 895 (fun u => slV (primalM p 1).length u) (fun u => u.2) (conR (primalM p 1))) | 2 => some (sayF 896 (fun u => slV (homL (primalM p 1)).length u) (fun u => u.2) (conR (homL (primalM p 1)))) | _ => none) (cls := [0, 1, 3, 0, 8, 24, 63, 127, 255, 511, 255, 1279, 4095, 8191, 16383, 32767]) (X := [(1, 895), (2, 896)]) hmix rfl rfl rfl
        · intro c
          refine GC.more tfine 0 rfl rfl rfl trivial ?_
          refine GC.choice 1 rfl _ rfl (StepsC.callSay 895 (fun u => slV (primalM p 1).length u) (fun u => u.2) (conR (primalM p 1)) rfl rfl rfl rfl rfl (fun args w => Try.call42 args w) (fun m' hle ρ w1 hs hok => refPrimal_cho p _ vs0 w1 (hp0.below hs.fr.toBelow) n0 (by omega) (by omega) hll hrw)) rfl sayF_nm rfl ?_
          refine GC.choice 2 rfl _ rfl (StepsC.callSayX 895 896 (fun u => slV (homL (primalM p 1)).length u) (fun u => u.2) (conR (homL (primalM p 1))) rfl rfl rfl rfl rfl rfl (fun args w => Try.call63 args w) (fun m' hle ρ w1 hs hok => ?_)) rfl sayF_nm rfl ?_
          · obtain ⟨us, hc, hu1, hu2⟩ := (hs.ok 895 _ (hle.at rfl)).1
            refine (refHom_any (slV (primalM p 1).length (c 1)) (primalM p 1) us w1 hc (by rw [primalM_len]; omega) (by rw [primalM_len]; omega)).mono ?_
            rintro e w' ⟨u, h1, h2, h3, h4, h5⟩
            exact ⟨u, h1, h2, h3, fun k hk => ⟨(h4 k hk).1.imp id fun ⟨j, hj, hk⟩ => hu2 j (by rw [← homL_len]; exact hj) k hk, (h4 k hk).2⟩, h5⟩
          refine GC.more tfine 3 rfl rfl rfl trivial ?_
          refine GC.step 6 rfl rfl (tv := toTV (.bool (keepsM (homL (primalM p 1)) s.dir 1))) (ms := []) (Steps.callPlain rfl rfl rfl rfl (fun args w => Try.call60 args w) (fun m' hle ρ w1 hs hok => ?_)) rfl ?_
          · obtain ⟨us, hc, _⟩ := (hs.ok 896 _ (hle.at rfl)).1
            exact refKeeps_any (slV (homL (primalM p 1)).length (c 2)) (homL (primalM p 1)) us A3 c3 s.dir 1 w1 hc (ha3.below hs.fr.toBelow) (fun i hi => by rw [homL_len] at hi; rw [homL_at _ i hi, primalM_rows p 1 hrw _ (cAt_mem hi), lb]; exact Nat.le_refl _) g3 (by rw [homL_len, primalM_len]; omega)
          refine GC.more tfine 7 rfl rfl rfl ?_ ?_
          · first | trivial | (simp [AllP, condB]; done) | (simp only [AllP]; and_intros <;> first | trivial | decide | omega) | (simp [AllP, condB]; intros; and_intros <;> first | assumption | omega) | (simp [AllP, condB]; intros; simp_all; done)
          refine GC.step 12 rfl rfl (Steps.callGuard (v := I (dotL p.obj s.dir)) rfl rfl rfl (by first | exact trivial | exact ⟨id, trivial⟩ | exact ⟨id, id, trivial⟩ | exact ⟨id, id, id, trivial⟩ | exact ⟨id, id, id, id, trivial⟩) rfl rfl (fun args w => Try.call61 args w) rfl (fun hct m' hle ρ w1 hs hok => refDot_any Ao A3 co c3 p.obj s.dir w1 (ho.below hs.fr.toBelow) (ha3.below hs.fr.toBelow) (by omega) (by omega))) rfl ?_
          refine GC.more tfine 13 rfl rfl rfl ?_ ?_
          · first | trivial | (simp [AllP, condB]; done) | (simp only [AllP]; and_intros <;> first | trivial | decide | omega) | (simp [AllP, condB]; intros; and_intros <;> first | assumption | omega) | (simp [AllP, condB]; intros; simp_all; done)
          refine GC.nil ?_
          exact ⟨(), trivial, St.le_of rfl ⟨⟨_, rfl, Blk.le_refl _⟩, ⟨_, rfl, Blk.le_refl _⟩, trivial⟩ ⟨rfl, rfl, rfl, rfl, rfl, by rw [v3, ← homL_primal]; rfl, trivial⟩⟩
        ·
          intro c c' j hj h
          have hj : j < 16 := hj
          match j, hj, h with
          | 0, _, h => first | rfl | (show some _ = some _; done)
          | 1, _, h => first | rfl | (show some _ = some _; (try rw [h 1 (.inl rfl)]); (try rw [h 1 (.inr ⟨rfl, rfl⟩)]); done)
          | 2, _, h => first | rfl | (show some _ = some _; (try rw [h 1 (.inl rfl)]); (try rw [h 1 (.inr ⟨rfl, rfl⟩)]); (try rw [h 2 (.inl rfl)]); (try rw [h 2 (.inr ⟨rfl, rfl⟩)]); done)
          | 3, _, h => first | rfl | (show some _ = some _; (try rw [h 1 (.inl rfl)]); (try rw [h 1 (.inr ⟨rfl, rfl⟩)]); (try rw [h 2 (.inl rfl)]); (try rw [h 2 (.inr ⟨rfl, rfl⟩)]); done)
          | 4, _, h => first | rfl | (show some _ = some _; (try rw [h 1 (.inl rfl)]); (try rw [h 1 (.inr ⟨rfl, rfl⟩)]); (try rw [h 2 (.inl rfl)]); (try rw [h 2 (.inr ⟨rfl, rfl⟩)]); done)
          | 5, _, h => first | rfl | (show some _ = some _; (try rw [h 1 (.inl rfl)]); (try rw [h 1 (.inr ⟨rfl, rfl⟩)]); (try rw [h 2 (.inl rfl)]); (try rw [h 2 (.inr ⟨rfl, rfl⟩)]); done)
          | 6, _, h => first | rfl | (show some _ = some _; (try rw [h 1 (.inl rfl)]); (try rw [h 1 (.inr ⟨rfl, rfl⟩)]); (try rw [h 2 (.inl rfl)]); (try rw [h 2 (.inr ⟨rfl, rfl⟩)]); done)
          | 7, _, h => first | rfl | (show some _ = some _; (try rw [h 1 (.inl rfl)]); (try rw [h 1 (.inr ⟨rfl, rfl⟩)]); (try rw [h 2 (.inl rfl)]); (try rw [h 2 (.inr ⟨rfl, rfl⟩)]); done)
          | 8, _, h => first | rfl | (show some _ = some _; (try rw [h 1 (.inl rfl)]); (try rw [h 1 (.inr ⟨rfl, rfl⟩)]); (try rw [h 2 (.inl rfl)]); (try rw [h 2 (.inr ⟨rfl, rfl⟩)]); done)
          | 9, _, h => first | rfl | (show some _ = some _; (try rw [h 1 (.inl rfl)]); (try rw [h 1 (.inr ⟨rfl, rfl⟩)]); (try rw [h 2 (.inl rfl)]); (try rw [h 2 (.inr ⟨rfl, rfl⟩)]); done)
          | 10, _, h => first | rfl | (show some _ = some _; (try rw [h 1 (.inl rfl)]); (try rw [h 1 (.inr ⟨rfl, rfl⟩)]); (try rw [h 2 (.inl rfl)]); (try rw [h 2 (.inr ⟨rfl, rfl⟩)]); done)
          | 11, _, h => first | rfl | (show some _ = some _; (try rw [h 1 (.inl rfl)]); (try rw [h 1 (.inr ⟨rfl, rfl⟩)]); (try rw [h 2 (.inl rfl)]); (try rw [h 2 (.inr ⟨rfl, rfl⟩)]); done)
          | 12, _, h => first | rfl | (show some _ = some _; (try rw [h 1 (.inl rfl)]); (try rw [h 1 (.inr ⟨rfl, rfl⟩)]); (try rw [h 2 (.inl rfl)]); (try rw [h 2 (.inr ⟨rfl, rfl⟩)]); done)
          | 13, _, h => first | rfl | (show some _ = some _; (try rw [h 1 (.inl rfl)]); (try rw [h 1 (.inr ⟨rfl, rfl⟩)]); (try rw [h 2 (.inl rfl)]); (try rw [h 2 (.inr ⟨rfl, rfl⟩)]); done)
          | 14, _, h => first | rfl | (show some _ = some _; (try rw [h 1 (.inl rfl)]); (try rw [h 1 (.inr ⟨rfl, rfl⟩)]); (try rw [h 2 (.inl rfl)]); (try rw [h 2 (.inr ⟨rfl, rfl⟩)]); done)
          | 15, _, h => first | rfl | (show some _ = some _; (try rw [h 1 (.inl rfl)]); (try rw [h 1 (.inr ⟨rfl, rfl⟩)]); (try rw [h 2 (.inl rfl)]); (try rw [h 2 (.inr ⟨rfl, rfl⟩)]); done)
          | q + 16, hj, h => exact absurd hj (by omega)
      · refine G.skip ?_
        exact ⟨(), trivial, St.le_of rfl ⟨⟨_, rfl, Blk.le_refl _⟩, ⟨_, rfl, Blk.le_refl _⟩, trivial⟩ ⟨rfl, rfl, rfl, rfl, rfl, by rw [o3, if_neg (by rw [h]; decide)]; rfl, trivial⟩⟩
    rintro _ _
    show G _ _ _ _ (St.of [(2, .v (.c (.ptr 2 0 0 0))), (3, .v (.c (.ptr 3 0 0 0))), (5, .v (.c (.k (I p.obj.length)))), (6, .v (.c (.k (I p.rows.length)))), (7, .v (.c (.k (.bool (at2 p s))))), (8, .v (.c (.k (.bool (o3 p s)))))] [(2, .var 25 [.k (.slice Ao p.obj.length co), .k (.slice Ar p.rows.length cr), .k (.slice Al p.lim.length cl)]), (3, .var 31 [.k (I s.kind), .k (.slice A1 s.at_.1.length c1), .k (I s.at_.2), .k (.slice A2 s.proof.1.length c2), .k (I s.proof.2), .k (.slice A3 s.dir.length c3)])])
    refine G.seq ?_
    refine G.seqR tfine rfl trivial ?_
    refine G.cond (b := !(o3 p s)) rfl (fun h => ?_) (fun h => ?_)
    · have h : o3 p s = false := by simpa using h
      refine G.seqR tfine rfl trivial ?_
      exact G.ret (retK.plain tfine rfl (by rw [if_neg (by rw [h]; decide)]))
    have h : o3 p s = true := by simpa using h
    refine G.skip ?_
    refine G.seqR tfine rfl trivial ?_
    exact G.ret (retK.plain tfine rfl (by rw [if_pos h]))
  ·
    intro c c' j hj h
    have hj : j < 12 := hj
    match j, hj, h with
    | 0, _, h => first | rfl | (show some _ = some _; done)
    | 1, _, h => first | rfl | (show some _ = some _; done)
    | 2, _, h => first | rfl | (show some _ = some _; done)
    | 3, _, h => first | rfl | (show some _ = some _; done)
    | 4, _, h => first | rfl | (show some _ = some _; done)
    | 5, _, h => first | rfl | (show some _ = some _; done)
    | 6, _, h => first | rfl | (show some _ = some _; (try rw [h 6 (.inl rfl)]); (try rw [h 6 (.inr ⟨rfl, rfl⟩)]); done)
    | 7, _, h => first | rfl | (show some _ = some _; (try rw [h 6 (.inl rfl)]); (try rw [h 6 (.inr ⟨rfl, rfl⟩)]); done)
    | 8, _, h => first | rfl | (show some _ = some _; (try rw [h 6 (.inl rfl)]); (try rw [h 6 (.inr ⟨rfl, rfl⟩)]); done)
    | 9, _, h => first | rfl | (show some _ = some _; (try rw [h 6 (.inl rfl)]); (try rw [h 6 (.inr ⟨rfl, rfl⟩)]); done)
    | 10, _, h => first | rfl | (show some _ = some _; (try rw [h 6 (.inl rfl)]); (try rw [h 6 (.inr ⟨rfl, rfl⟩)]); done)
    | 11, _, h => first | rfl | (show some _ = some _; (try rw [h 6 (.inl rfl)]); (try rw [h 6 (.inr ⟨rfl, rfl⟩)]); done)
    | q + 12, hj, h => exact absurd hj (by omega)
end Go.Proofs.Ytafhnfcahhlanaa
/- Chapter 27: outcomes that are right; the law of Verify. -/
set_option linter.unusedVariables false
set_option linter.unusedSimpArgs false
set_option maxRecDepth 8000
set_option maxHeartbeats 2000000
namespace Go.Proofs.Ytafhnfcahhlanaa
open Go.Sx Go.RowKit
theorem dotN_comm (a b : Nat → Int) : ∀ n, dotN a b n = dotN b a n
  | 0 => rfl
  | n + 1 => by rw [dotN, dotN, dotN_comm a b n, Int.mul_comm]
theorem dotL_comm {a b : List Int} (h : a.length = b.length) : dotL a b = dotL b a := by rw [dotL, dotL, h, dotN_comm]
/-- Fractions in lowest terms are the same just if they are equal. -/
theorem low_eq {a b c d : Nat} (hb : 0 < b) (hd : 0 < d) : (a / Nat.gcd a b = c / Nat.gcd c d ∧ b / Nat.gcd a b = d / Nat.gcd c d) ↔ a * d = c * b := by
  have g1 : 0 < Nat.gcd a b := Nat.gcd_pos_of_pos_right _ hb
  have g2 : 0 < Nat.gcd c d := Nat.gcd_pos_of_pos_right _ hd
  have c1 := Nat.coprime_div_gcd_div_gcd g1
  have c2 := Nat.coprime_div_gcd_div_gcd g2
  have e1 : a / Nat.gcd a b * Nat.gcd a b = a := Nat.div_mul_cancel (Nat.gcd_dvd_left _ _)
  have e2 : b / Nat.gcd a b * Nat.gcd a b = b := Nat.div_mul_cancel (Nat.gcd_dvd_right _ _)
  have e3 : c / Nat.gcd c d * Nat.gcd c d = c := Nat.div_mul_cancel (Nat.gcd_dvd_left _ _)
  have e4 : d / Nat.gcd c d * Nat.gcd c d = d := Nat.div_mul_cancel (Nat.gcd_dvd_right _ _)
  generalize Nat.gcd a b = g at *
  generalize Nat.gcd c d = h at *
  generalize a / g = a' at *
  generalize b / g = b' at *
  generalize c / h = c' at *
  generalize d / h = d' at *
  subst e1 e2 e3 e4
  constructor
  · rintro ⟨rfl, rfl⟩
    rw [Nat.mul_mul_mul_comm, Nat.mul_mul_mul_comm _ h, Nat.mul_comm h g]
  · intro e
    have e : (a' * d') * (g * h) = (c' * b') * (g * h) := by
      rw [Nat.mul_mul_mul_comm, e, Nat.mul_mul_mul_comm, Nat.mul_comm h g]
    have e := Nat.eq_of_mul_eq_mul_right (Nat.mul_pos g1 g2) e
    have hb' : 0 < b' := Nat.pos_of_mul_pos_right hb
    have hd' : 0 < d' := Nat.pos_of_mul_pos_right hd
    have x1 : b' ∣ d' := c1.symm.dvd_of_dvd_mul_left ⟨c', by rw [e, Nat.mul_comm]⟩
    have x2 : d' ∣ b' := c2.symm.dvd_of_dvd_mul_left ⟨a', by rw [← e, Nat.mul_comm]⟩
    have x3 := Nat.dvd_antisymm x1 x2
    subst x3
    exact ⟨Nat.eq_of_mul_eq_mul_right hb' e, rfl⟩
theorem gL_one {v o : Int} (h1 : -9223372036854775808 < v) (h2 : v ≤ 9223372036854775807) (h3 : 1 ≤ o) (h4 : o ≤ 9223372036854775807) : gL [v] o = ((Nat.gcd v.natAbs o.toNat : Nat) : Int) := by
  rw [← gN_gL o [v] (fun k hk => by
    have : k = 0 := by simpa using hk
    subst this
    exact ⟨h1, h2⟩) h3 h4]
  show ((Nat.gcd o.toNat v.natAbs : Nat) : Int) = _
  rw [Nat.gcd_comm]
theorem tdiv_small {v : Int} {g : Nat} (h1 : -9223372036854775808 < v) (h2 : v ≤ 9223372036854775807) : W (v.tdiv (g : Int)) = v.tdiv (g : Int) := by
  have : (v.tdiv (g : Int)).natAbs ≤ v.natAbs := by
    rw [Int.natAbs_tdiv]
    exact Nat.div_le_self _ _
  exact IntWalk.i64_in _ (by omega)
theorem neg_zero {x y : Nat} (h : (x : Int) = -(y : Int)) : x = 0 ∧ y = 0 := by omega
theorem neg_same {x y : Nat} (h : -(x : Int) = -(y : Int)) : x = y := by omega
theorem frac_eq {v w o q : Int} (h1 : -4611686018427387904 < v) (h2 : v < 4611686018427387904) (h3 : 1 ≤ o) (h4 : o < 4611686018427387904) (h5 : -4611686018427387904 < w) (h6 : w < 4611686018427387904) (h7 : 1 ≤ q) (h8 : q < 4611686018427387904) :
    ((((lowL [v] o).getD 0 0 == (lowL [w] q).getD 0 0) && (lowO [v] o == lowO [w] q)) = true) ↔ v * q = w * o := by
  rw [Bool.and_eq_true, beq_iff_eq, beq_iff_eq]
  show W (v.tdiv (gL [v] o)) = W (w.tdiv (gL [w] q)) ∧ W (o.tdiv (gL [v] o)) = W (q.tdiv (gL [w] q)) ↔ _
  rw [gL_one (by omega) (by omega) h3 (by omega), gL_one (by omega) (by omega) h7 (by omega), tdiv_small (by omega) (by omega), tdiv_small (by omega) (by omega), tdiv_small (by omega) (by omega), tdiv_small (by omega) (by omega)]
  obtain ⟨O, rfl⟩ : ∃ O : Nat, o = O := ⟨o.toNat, by omega⟩
  obtain ⟨Q, rfl⟩ : ∃ Q : Nat, q = Q := ⟨q.toNat, by omega⟩
  rw [Int.toNat_natCast, Int.toNat_natCast, ← Int.ofNat_tdiv, ← Int.ofNat_tdiv]
  have hO : 0 < O := by omega
  have hQ : 0 < Q := by omega
  have key := low_eq (a := v.natAbs) (b := O) (c := w.natAbs) (d := Q) hO hQ
  have g1 : 0 < Nat.gcd v.natAbs O := Nat.gcd_pos_of_pos_right _ hO
  have g2 : 0 < Nat.gcd w.natAbs Q := Nat.gcd_pos_of_pos_right _ hQ
  rcases Int.natAbs_eq v with hv | hv <;> rcases Int.natAbs_eq w with hw | hw <;> generalize hV : v.natAbs = V at * <;> generalize hWw : w.natAbs = X at * <;> subst hv hw
  · rw [← Int.ofNat_tdiv, ← Int.ofNat_tdiv]
    constructor
    · rintro ⟨a, b⟩
      have := key.1 ⟨by exact_mod_cast a, by exact_mod_cast b⟩
      exact_mod_cast this
    · intro e
      have := key.2 (by exact_mod_cast e)
      exact ⟨by exact_mod_cast this.1, by exact_mod_cast this.2⟩
  · rw [Int.neg_tdiv, ← Int.ofNat_tdiv, ← Int.ofNat_tdiv]
    constructor
    · rintro ⟨a, b⟩
      obtain ⟨z1, z2⟩ := neg_zero a
      have := key.1 ⟨by rw [z1, z2], by exact_mod_cast b⟩
      have d1 : Nat.gcd V O ∣ V := Nat.gcd_dvd_left _ _
      have : V = 0 := by rw [← Nat.div_mul_cancel d1, z1, Nat.zero_mul]
      have d2 : Nat.gcd X Q ∣ X := Nat.gcd_dvd_left _ _
      have x0 : X = 0 := by rw [← Nat.div_mul_cancel d2, z2, Nat.zero_mul]
      subst this x0
      simp
    · intro e
      have e : (V : Int) * Q + X * O = 0 := by rw [e, Int.neg_mul]; omega
      have p1 : 0 ≤ (V : Int) * Q := Int.mul_nonneg (by omega) (by omega)
      have p2 : 0 ≤ (X : Int) * O := Int.mul_nonneg (by omega) (by omega)
      have q1 : (V : Int) * Q = 0 := by omega
      have q2 : (X : Int) * O = 0 := by omega
      have v0 : V = 0 := by
        rcases Int.mul_eq_zero.1 q1 with h | h <;> omega
      have x0 : X = 0 := by
        rcases Int.mul_eq_zero.1 q2 with h | h <;> omega
      subst v0 x0
      have := key.2 (by simp)
      exact ⟨by simp, by exact_mod_cast this.2⟩
  · rw [Int.neg_tdiv, ← Int.ofNat_tdiv, ← Int.ofNat_tdiv]
    constructor
    · rintro ⟨a, b⟩
      obtain ⟨z2, z1⟩ := neg_zero a.symm
      have d1 : Nat.gcd V O ∣ V := Nat.gcd_dvd_left _ _
      have v0 : V = 0 := by rw [← Nat.div_mul_cancel d1, z1, Nat.zero_mul]
      have d2 : Nat.gcd X Q ∣ X := Nat.gcd_dvd_left _ _
      have x0 : X = 0 := by rw [← Nat.div_mul_cancel d2, z2, Nat.zero_mul]
      subst v0 x0
      simp
    · intro e
      have e : (V : Int) * Q + X * O = 0 := by rw [← e, Int.neg_mul]; omega
      have p1 : 0 ≤ (V : Int) * Q := Int.mul_nonneg (by omega) (by omega)
      have p2 : 0 ≤ (X : Int) * O := Int.mul_nonneg (by omega) (by omega)
      have q1 : (V : Int) * Q = 0 := by omega
      have q2 : (X : Int) * O = 0 := by omega
      have v0 : V = 0 := by
        rcases Int.mul_eq_zero.1 q1 with h | h <;> omega
      have x0 : X = 0 := by
        rcases Int.mul_eq_zero.1 q2 with h | h <;> omega
      subst v0 x0
      have := key.2 (by simp)
      exact ⟨by simp, by exact_mod_cast this.2⟩
  · rw [Int.neg_tdiv, Int.neg_tdiv, ← Int.ofNat_tdiv, ← Int.ofNat_tdiv]
    constructor
    · rintro ⟨a, b⟩
      have := key.1 ⟨neg_same a, by exact_mod_cast b⟩
      rw [Int.neg_mul, Int.neg_mul]
      congr 1
      exact_mod_cast this
    · intro e
      rw [Int.neg_mul, Int.neg_mul] at e
      have := key.2 (by have : (V : Int) * Q = X * O := by omega
                        exact_mod_cast this)
      exact ⟨by rw [this.1], by exact_mod_cast this.2⟩
theorem sgnU_zero {p q : Nat} : (sgnU p q == 0) = true ↔ p = q := by
  unfold sgnU
  split
  · simp; omega
  · split
    · simp; omega
    · simp; omega
theorem cmp_zero {v w o q : Int} (h1 : -4611686018427387904 < v) (h2 : v < 4611686018427387904) (h3 : 1 ≤ o) (h4 : o < 4611686018427387904) (h5 : -4611686018427387904 < w) (h6 : w < 4611686018427387904) (h7 : 1 ≤ q) (h8 : q < 4611686018427387904) :
    (cmpM v o w q == 0) = true ↔ v * q = w * o := by
  obtain ⟨O, rfl⟩ : ∃ O : Nat, o = O := ⟨o.toNat, by omega⟩
  obtain ⟨Q, rfl⟩ : ∃ Q : Nat, q = Q := ⟨q.toNat, by omega⟩
  by_cases ha : v < 0
  · by_cases hc : w < 0
    · obtain ⟨V, hV⟩ : ∃ V : Nat, v = -(V : Int) := ⟨(-v).toNat, by omega⟩
      obtain ⟨X, hX⟩ : ∃ X : Nat, w = -(X : Int) := ⟨(-w).toNat, by omega⟩
      subst hV hX
      have w1 : W (0 - -(V : Int)) = (V : Int) := by rw [show (0 - -(V : Int)) = (V : Int) by omega]; exact IntWalk.i64_in _ (by omega)
      have w2 : W (0 - -(X : Int)) = (X : Int) := by rw [show (0 - -(X : Int)) = (X : Int) by omega]; exact IntWalk.i64_in _ (by omega)
      rw [cmpM, if_pos ⟨ha, hc⟩, w1, w2, cmp0, if_neg (by omega), if_neg (by omega), cmpU, toU_nat _ (by omega), toU_nat _ (by omega), toU_nat _ (by omega), toU_nat _ (by omega), sgnU_zero, Int.neg_mul, Int.neg_mul]
      constructor
      · intro e
        congr 1
        exact_mod_cast e.symm
      · intro e
        have : (V : Int) * Q = X * O := by omega
        have : V * Q = X * O := by exact_mod_cast this
        exact this.symm
    · rw [cmpM, if_neg (by omega), cmp0, if_pos ha]
      constructor
      · intro h; cases h
      · intro e
        exfalso
        have p1 : v * Q < 0 := Int.mul_neg_of_neg_of_pos ha (by omega)
        have p2 : 0 ≤ w * O := Int.mul_nonneg (by omega) (by omega)
        omega
  · by_cases hc : w < 0
    · rw [cmpM, if_neg (by omega), cmp0, if_neg ha, if_pos hc]
      constructor
      · intro h; cases h
      · intro e
        exfalso
        have p1 : w * O < 0 := Int.mul_neg_of_neg_of_pos hc (by omega)
        have p2 : 0 ≤ v * Q := Int.mul_nonneg (by omega) (by omega)
        omega
    · obtain ⟨V, rfl⟩ : ∃ V : Nat, v = V := ⟨v.toNat, by omega⟩
      obtain ⟨X, rfl⟩ : ∃ X : Nat, w = X := ⟨w.toNat, by omega⟩
      rw [cmpM, if_neg (by omega), cmp0, if_neg ha, if_neg hc, cmpU, toU_nat _ (by omega), toU_nat _ (by omega), toU_nat _ (by omega), toU_nat _ (by omega), sgnU_zero]
      constructor
      · intro e
        exact_mod_cast e
      · intro e
        exact_mod_cast e
theorem rgt_fac (p : Prob) (f : Int) (r : Rat) : (rgt r p.rows.length && keepsM (dualM p f) r.1 r.2) = facM p f r := rfl
theorem o3_ok (p : Prob) (s : Sol) (hc : checkM p = 0) : o3 p s = okM p s := by
  obtain ⟨n0, n3, m4, hll, hrw⟩ := check_ok hc
  obtain ⟨hobj, hlim⟩ := check_obj hc
  have hat : at2 p s = feasM p s.at_ := rfl
  unfold okM
  by_cases e1 : s.kind = 1
  · rw [if_pos e1]
    have n3' : k3 p s = false := by simp [k3, e1]
    have n2' : k2 p s = false := by simp [k2, e1]
    rw [o3, n3', if_neg (by decide), o2, n2', if_neg (by decide), o1]
    by_cases hk : k1 p s = true
    · rw [if_pos hk]
      rw [k1, Bool.and_eq_true, Bool.and_eq_true, Bool.and_eq_true] at hk
      obtain ⟨⟨⟨_, ha⟩, hpr⟩, hd⟩ := hk
      rw [hat] at ha
      obtain ⟨la, ia⟩ := rgt_len (by
        rw [feasM] at ha
        exact (Bool.and_eq_true_iff.1 ha).1 : rgt s.at_ p.obj.length = true)
      obtain ⟨lb, ib⟩ := rgt_len hpr
      obtain ⟨ov1, ov2⟩ := inM_over ia
      obtain ⟨ov3, ov4⟩ := inM_over ib
      have ds1 := dot_small (a := p.obj) (b := s.at_.1) (n := p.obj.length) (by omega) rfl la hobj (fun k hk => inM_nums ia k (by omega))
      have ds2 := dot_small (a := p.lim) (b := s.proof.1) (n := p.rows.length) (by omega) hll lb (fun k hk => hlim k (by omega)) (fun k hk => inM_nums ib k (by omega))
      rw [ha, ← rgt_fac, hpr, hd, v1, Bool.true_and, Bool.true_and, Bool.and_true]
      congr 1
      rw [Bool.eq_iff_iff, cmp_zero ds1.1 ds1.2 ov1 (by omega) ds2.1 ds2.2 ov3 (by omega)]
      exact (frac_eq ds1.1 ds1.2 ov1 (by omega) ds2.1 ds2.2 ov3 (by omega)).symm
    · rw [if_neg hk]
      have hk : k1 p s = false := by simpa using hk
      rw [k1, hat, e1] at hk
      rw [← rgt_fac]
      revert hk
      cases feasM p s.at_ <;> cases rgt s.proof p.rows.length <;> cases ((s.dir.length : Int) == 0) <;> simp
  rw [if_neg e1]
  have n1' : k1 p s = false := by simp [k1, e1]
  by_cases e2 : s.kind = 2
  · rw [if_pos e2]
    have n3' : k3 p s = false := by simp [k3, e2]
    rw [o3, n3', if_neg (by decide), o2, o1, n1', if_neg (show ¬ (false = true) by decide), ← rgt_fac]
    have hk : k2 p s = (rgt s.proof p.rows.length && noneM s.at_ && ((s.dir.length : Int) == 0)) := by rw [k2, e2]; rfl
    rw [hk, v2]
    cases rgt s.proof p.rows.length <;> cases noneM s.at_ <;> cases ((s.dir.length : Int) == 0) <;> simp
  rw [if_neg e2]
  have n2' : k2 p s = false := by simp [k2, e2]
  by_cases e3 : s.kind = 3
  · rw [if_pos e3]
    have hk : k3 p s = (feasM p s.at_ && noneM s.proof && rgt (s.dir, 1) p.obj.length) := by rw [k3, e3, hat]; rfl
    rw [o3, hk, o2, n2', if_neg (show ¬ (false = true) by decide), o1, n1', if_neg (show ¬ (false = true) by decide), v3]
    have he : endM p s.dir = (rgt (s.dir, 1) p.obj.length && keepsM (primalM p 0) s.dir 1 && decide (dotL s.dir p.obj > 0)) := rfl
    rw [he]
    by_cases hr : rgt (s.dir, 1) p.obj.length = true
    · have hl : s.dir.length = p.obj.length := (rgt_len hr).1
      rw [dotL_comm hl]
      cases feasM p s.at_ <;> cases noneM s.proof <;> cases rgt (s.dir, 1) p.obj.length <;> simp
    · have hr : rgt (s.dir, 1) p.obj.length = false := by simpa using hr
      rw [hr]
      cases feasM p s.at_ <;> cases noneM s.proof <;> simp
  rw [if_neg e3]
  have n3' : k3 p s = false := by simp [k3, e3]
  rw [o3, n3', if_neg (by decide), o2, n2', if_neg (by decide), o1, n1', if_neg (by decide)]
theorem refVerify_eq (p : Prob) (s : Sol) : (if checkM p ≠ 0 then 1 else if o3 p s = true then 0 else 14 : Int) = verifyM p s := by
  unfold verifyM
  by_cases h : checkM p ≠ 0
  · rw [if_pos h, if_pos h]
  · rw [if_neg h, if_neg h, o3_ok p s (by omega)]
end Go.Proofs.Ytafhnfcahhlanaa
/- Chapter 27: the law of Verify, its walk. -/
set_option linter.unusedVariables false
set_option linter.unusedSimpArgs false
set_option maxRecDepth 8000
set_option maxHeartbeats 2000000
namespace Go.Proofs.Ytafhnfcahhlanaa
open Go.Sx Go.RowKit
def fewS (s : Sol) : Bool := decide ((s.at_.1.length : Int) ≤ 8) && decide ((s.proof.1.length : Int) ≤ 8) && decide ((s.dir.length : Int) ≤ 8)
theorem fewS_any (sv : Value) (s : Sol) (w : World) (hs : SolAt w sv s) : Calls Try.prog 16 #[sv] w fun e w' => e = .returned (.bool (fewS s)) ∧ Below w.heap.size w w' := by
  obtain ⟨v1', v2', v3', rfl, ⟨A1, c1, rfl, ha1, ha1c⟩, ⟨A2, c2, rfl, ha2, ha2c⟩, ⟨A3, c3, rfl, ha3, ha3c⟩⟩ := hs
  refine enterSay [] [.agg [.k (I s.kind), .k (.slice A1 s.at_.1.length c1), .k (I s.at_.2), .k (.slice A2 s.proof.1.length c2), .k (I s.proof.2), .k (.slice A3 s.dir.length c3)]] [] Try.func16 rfl 21 Try.ntmps16 rfl rfl ⟨⟨trivial, trivial, trivial, trivial, trivial, trivial, trivial⟩, trivial⟩ trivial ?_
  refine G.seqR tfine rfl trivial ?_
  refine G.seqR tfine rfl ?_ ?_
  · first | trivial | (simp [AllP, condB]; done) | (simp only [AllP]; and_intros <;> first | trivial | decide | omega) | (simp [AllP, condB]; intros; and_intros <;> first | assumption | omega) | (simp [AllP, condB]; intros; simp_all; done)
  exact G.ret (retK.plain tfine rfl rfl)
theorem fewS_len {s : Sol} (h : fewS s = true) : s.at_.1.length ≤ 8 ∧ s.proof.1.length ≤ 8 ∧ s.dir.length ≤ 8 := by
  rw [fewS, Bool.and_eq_true, Bool.and_eq_true] at h
  have h1 := of_decide_eq_true h.1.1
  have h2 := of_decide_eq_true h.1.2
  have h3 := of_decide_eq_true h.2
  omega
theorem LinearVerifies_any (p : Prob) (pv sv : Value) (vs0 : Nat → Value) (s : Sol) (w : World) (hp : ProbAt w pv p vs0) (hs : SolAt w sv s) (h2 : p.rows.length ≤ 9223372036854775807) :
    Calls Try.prog 4 #[pv, sv] w fun e w' => e = .returned (.bool true) ∧ Below w.heap.size w w' := by
  have hp0 := hp
  obtain ⟨ov, rv2, lv, rfl, ⟨Ao, co, rfl, ho, hoc⟩, ⟨Ar, cr, rfl, hrr, hrc, hri⟩, ⟨Al, cl, rfl, hl, hlc⟩⟩ := hp
  obtain ⟨v1', v2', v3', rfl, ⟨A1, c1, rfl, ha1, ha1c⟩, ⟨A2, c2, rfl, ha2, ha2c⟩, ⟨A3, c3, rfl, ha3, ha3c⟩⟩ := hs
  have hs0 : ∀ {w1 : World}, Below w.heap.size w w1 → SolAt w1 (.agg #[I s.kind, .slice A1 s.at_.1.length c1, I s.at_.2, .slice A2 s.proof.1.length c2, I s.proof.2, .slice A3 s.dir.length c3]) s := fun hb => ⟨_, _, _, rfl, ⟨A1, c1, rfl, ha1.below hb, ha1c⟩, ⟨A2, c2, rfl, ha2.below hb, ha2c⟩, ⟨A3, c3, rfl, ha3.below hb, ha3c⟩⟩
  refine enterSay [] [.agg [.k (.slice Ao p.obj.length co), .k (.slice Ar p.rows.length cr), .k (.slice Al p.lim.length cl)], .agg [.k (I s.kind), .k (.slice A1 s.at_.1.length c1), .k (I s.at_.2), .k (.slice A2 s.proof.1.length c2), .k (I s.proof.2), .k (.slice A3 s.dir.length c3)]] [] Try.func4 rfl 22 Try.ntmps4 rfl rfl ⟨⟨trivial, trivial, trivial, trivial⟩, ⟨trivial, trivial, trivial, trivial, trivial, trivial, trivial⟩, trivial⟩ trivial ?_
  refine G.seqR tfine rfl trivial ?_
  refine G.seq ?_
  refine G.seqC tfine rfl trivial ?_
  refine GO.callPlain (v := .bool true) rfl rfl rfl rfl (fun args w => Try.call9 args w) (fun ρ w1 hs hok => awake_any w1) ?_
  refine GO.fin tfine rfl trivial ?_
  refine G.cond_false rfl ?_
  refine G.skip ?_
  refine G.seq ?_
  refine G.seqC tfine rfl trivial ?_
  refine GO.callPlain (v := .bool (fewM p)) rfl rfl rfl rfl (fun args w => Try.call10 args w) (fun ρ w1 hs hok => Few_any p _ vs0 w1 (hp0.below hs.fr.toBelow) h2) ?_
  refine GO.more tfine rfl ?_ ?_
  · first | trivial | (simp [AllP, condB]; done) | (simp only [AllP]; and_intros <;> first | trivial | decide | omega) | (simp [AllP, condB]; intros; and_intros <;> first | assumption | omega) | (simp [AllP, condB]; intros; simp_all; done)
  refine GO.callGuard (.bool (fewS s)) rfl rfl rfl (by first | exact trivial | exact ⟨id, trivial⟩) rfl rfl (fun args w => Try.call16 args w) rfl (fun hct m' hle ρ w1 hs hok => fewS_any _ s w1 (hs0 hs.fr.toBelow)) ?_
  refine GO.fin tfine rfl ?_ ?_
  · first | trivial | (simp [AllP, condB]; done) | (simp only [AllP]; and_intros <;> first | trivial | decide | omega) | (simp [AllP, condB]; intros; and_intros <;> first | assumption | omega) | (simp [AllP, condB]; intros; simp_all; done)
  refine G.cond (b := !(fewM p) || !(fewS s)) ?_ (fun h => ?_) (fun h => ?_)
  · cases fewM p <;> rfl
  · refine G.seqR tfine rfl trivial ?_
    exact G.ret (retK.plain tfine rfl rfl)
  rw [Bool.or_eq_false_iff] at h
  obtain ⟨hf, hx⟩ := h
  have hf : fewM p = true := by simpa using hf
  have hx : fewS s = true := by simpa using hx
  obtain ⟨l1, l2, l3, l4⟩ := few_len hf
  obtain ⟨m1, m2, m3⟩ := fewS_len hx
  refine G.skip ?_
  refine G.seqDraw hmix [0, 0, 3, 0, 0, 31, 63, 127] [] rfl rfl rfl ?_
  refine GD.more tfine 0 rfl rfl trivial ?_
  refine GD.call (v := I (verifyM p s)) 2 rfl rfl rfl rfl rfl (fun args w => Try.call17 args w) (fun m' hle ρ w1 hs hok => verify_any p _ _ vs0 s w1 (hp0.below hs.fr.toBelow) (hs0 hs.fr.toBelow) (by omega) (by omega) (by omega) (fun r hr => by have := l4 r hr; omega) (by omega) (by omega) (by omega)) ?_
  refine GD.more tfine 3 rfl rfl trivial ?_
  refine GD.call (v := I (verifyM p s)) 5 rfl rfl rfl rfl rfl (fun args w => Try.call18 args w) (fun m' hle ρ w1 hs hok => ?_) ?_
  · rw [← refVerify_eq]
    exact refVerify_any p _ _ vs0 s w1 (hp0.below hs.fr.toBelow) (hs0 hs.fr.toBelow) (by omega) (by omega) (by omega) (fun r hr => by have := l4 r hr; omega) (by omega) (by omega) (by omega)
  refine GD.fin tfine 6 rfl rfl trivial ?_
  refine G.ret (retK.plain tfine rfl ?_)
  simp
end Go.Proofs.Ytafhnfcahhlanaa
/- Chapter 27: the law of Verify for every argument. -/
set_option linter.unusedVariables false
set_option linter.unusedSimpArgs false
set_option maxRecDepth 8000
set_option maxHeartbeats 1000000
namespace Go.Proofs.Ytafhnfcahhlanaa
open Go.Sx Go.RowKit
theorem LinearVerifies_row (a0 : Option Addr) (c0 : Nat) (e0 : List (List Value)) (a1 : Option Addr) (c1 : Nat) (e1 : List (List Value)) (a2 : Option Addr) (c2 : Nat) (e2 : List (List Value)) (k : Int) (b0 : Option Addr) (d0 : Nat) (f0 : List (List Value)) (b1 : Int) (b2 : Option Addr) (d2 : Nat) (f2 : List (List Value)) (b3 : Int) (b4 : Option Addr) (d4 : Nat) (f4 : List (List Value)) (w : World)
    (r0 : RdRow w a0 e0.length 1 (fun i => e0.getD i [])) (n0 : a0 = none → e0.length = 0) (m0 : e0.length ≤ maxLen ∧ e0.length ≤ c0) (w0 : ∀ es ∈ e0, LeafAll (Leaf.says w 3) [.int .i64] es)
    (r1 : RdRow w a1 e1.length 1 (fun i => e1.getD i [])) (n1 : a1 = none → e1.length = 0) (m1 : e1.length ≤ maxLen ∧ e1.length ≤ c1) (w1 : ∀ es ∈ e1, LeafAll (Leaf.says w 3) [.row 1 [.int .i64]] es)
    (r2 : RdRow w a2 e2.length 1 (fun i => e2.getD i [])) (n2 : a2 = none → e2.length = 0) (m2 : e2.length ≤ maxLen ∧ e2.length ≤ c2) (w2 : ∀ es ∈ e2, LeafAll (Leaf.says w 3) [.int .i64] es)
    (s0 : RdRow w b0 f0.length 1 (fun i => f0.getD i [])) (t0 : b0 = none → f0.length = 0) (u0 : f0.length ≤ maxLen ∧ f0.length ≤ d0) (v0 : ∀ es ∈ f0, LeafAll (Leaf.says w 3) [.int .i64] es)
    (s2 : RdRow w b2 f2.length 1 (fun i => f2.getD i [])) (t2 : b2 = none → f2.length = 0) (u2 : f2.length ≤ maxLen ∧ f2.length ≤ d2) (v2 : ∀ es ∈ f2, LeafAll (Leaf.says w 3) [.int .i64] es)
    (s4 : RdRow w b4 f4.length 1 (fun i => f4.getD i [])) (t4 : b4 = none → f4.length = 0) (u4 : f4.length ≤ maxLen ∧ f4.length ≤ d4) (v4 : ∀ es ∈ f4, LeafAll (Leaf.says w 3) [.int .i64] es) :
    Calls Try.prog 4 #[.agg #[.slice a0 e0.length c0, .slice a1 e1.length c1, .slice a2 e2.length c2], .agg #[I k, .slice b0 f0.length d0, I b1, .slice b2 f2.length d2, I b3, .slice b4 f4.length d4]] w fun e w' => e = .returned (.bool true) ∧ Below w.heap.size w w' := by
  obtain ⟨p, vs, hp, hp2⟩ := rowProb r0 m0 w0 r1 m1 w1 r2 m2 w2
  obtain ⟨l, _, hl⟩ := rowInts s0 u0.2 v0
  obtain ⟨l2, _, hl2⟩ := rowInts s2 u2.2 v2
  obtain ⟨l4, _, hl4⟩ := rowInts s4 u4.2 v4
  exact LinearVerifies_any p _ _ vs ⟨k, (l, b1), (l2, b3), l4⟩ w hp ⟨_, _, _, rfl, hl, hl2, hl4⟩ hp2
end Go.Proofs.Ytafhnfcahhlanaa
