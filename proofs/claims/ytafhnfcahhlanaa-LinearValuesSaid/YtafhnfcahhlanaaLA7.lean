/- Chapter 27: the laws for every argument. -/
import Derived.Test.YtafhnfcahhlanaaLA6
/- Chapter 27: the reference's Check, right, asks, dot, same. -/
set_option linter.unusedVariables false
set_option linter.unusedSimpArgs false
set_option maxRecDepth 8000
set_option maxHeartbeats 2000000
namespace Go.Proofs.Ytafhnfcahhlanaa
open Go.Sx Go.RowKit
theorem anyBad_eq (l : List Int) : anyBad l = anyI badB2 l := rfl
theorem anyB_eq (l : List Int) : anyB l = anyI inB l := rfl
theorem bool_or_ne {a b : Bool} : (!a || !b) = true ↔ (a = false ∨ b = false) := by cases a <;> cases b <;> simp
theorem refCheck_any (p : Prob) (pv : Value) (vs0 : Nat → Value) (w : World) (hp : ProbAt w pv p vs0) (h1 : p.obj.length ≤ 100000) (h2 : p.rows.length ≤ 100000) (h3 : p.lim.length ≤ 100000) (h4 : ∀ r ∈ p.rows, r.length ≤ 100000) :
    Calls Try.prog 14 #[pv] w fun e w' => e = .returned (I (checkM p)) ∧ Below w.heap.size w w' := by
  obtain ⟨ov, rv, lv, rfl, ⟨Ao, co, rfl, ho, _⟩, hmat, ⟨Al, cl, rfl, hl, _⟩⟩ := hp
  obtain ⟨Ar, cr, rfl, hr, hrc, hri⟩ := hmat
  have hmat : MatAt w (.slice Ar p.rows.length cr) p.rows vs0 := ⟨Ar, cr, rfl, hr, hrc, hri⟩
  have hrow : ∀ i, i < p.rows.length → (p.rows.getD i []).length ≤ 100000 := fun i hi => h4 _ (by rw [List.getD_eq_getElem?_getD, List.getElem?_eq_getElem hi]; exact List.getElem_mem hi)
  refine enterPlain tfine Try.func14 rfl 67 Try.ntmps14 [.agg [.k (.slice Ao p.obj.length co), .inp 1001 Ar p.rows.length cr, .k (.slice Al p.lim.length cl)]] [⟨1001, Ar, 1, p.rows.length, fun i => [rowV p.rows vs0 i]⟩] rfl rfl ⟨rowsV hmat, trivial⟩ ⟨⟨trivial, .inl ⟨rfl, rfl, rfl⟩, trivial, trivial⟩, trivial⟩ ?_
  refine G.seqR tfine rfl trivial ?_
  refine G.seq ?_
  refine G.seqR tfine rfl trivial ?_
  refine G.cond (b := ((p.obj.length : Int) == 0)) rfl (fun h => ?_) (fun h => ?_)
  · have h : (p.obj.length : Int) = 0 := by simpa using h
    refine G.seqR tfine rfl trivial ?_
    exact G.ret (endK.ret rfl (by rw [checkM, if_pos (by omega)]))
  have g1 : ¬ p.obj.length = 0 := by
    have h : ¬ (p.obj.length : Int) = 0 := by simpa using h
    omega
  refine G.skip ?_
  refine G.seq ?_
  refine G.seqR tfine rfl ?_ ?_
  · first | trivial | (simp [AllP, condB]; done) | (simp only [AllP]; and_intros <;> first | trivial | decide | omega) | (simp [AllP, condB]; intros; and_intros <;> first | assumption | omega) | (simp [AllP, condB]; intros; simp_all; done)
  refine G.cond (b := decide ((p.obj.length : Int) > 3) || decide ((p.rows.length : Int) > 4)) rfl (fun h => ?_) (fun h => ?_)
  · have h : p.obj.length > 3 ∨ p.rows.length > 4 := by
      have h : ((p.obj.length : Int) > 3) ∨ ((p.rows.length : Int) > 4) := by simpa using h
      omega
    refine G.seqR tfine rfl trivial ?_
    exact G.ret (endK.ret rfl (by rw [checkM, if_neg g1, if_pos h]))
  have g2 : ¬ (p.obj.length > 3 ∨ p.rows.length > 4) := by
    have h : ¬ (((p.obj.length : Int) > 3) ∨ ((p.rows.length : Int) > 4)) := by simpa using h
    omega
  refine G.skip ?_
  refine G.seq ?_
  refine G.seqR tfine rfl trivial ?_
  refine G.cond (b := ((p.lim.length : Int) != (p.rows.length : Int))) rfl (fun h => ?_) (fun h => ?_)
  · have h : ¬ (p.lim.length : Int) = (p.rows.length : Int) := by simpa using h
    refine G.seqR tfine rfl trivial ?_
    exact G.ret (endK.ret rfl (by rw [checkM, if_neg g1, if_neg g2, if_pos (.inl (by omega))]))
  have g3 : p.lim.length = p.rows.length := by
    have h : (p.lim.length : Int) = (p.rows.length : Int) := by simpa using h
    omega
  refine G.skip ?_
  refine G.seq ?_
  refine G.seqR tfine rfl trivial ?_
  obtain ⟨q, hq⟩ : ∃ q : Nat → Bool, q = fun i => (((p.rows.getD i []).length : Int) != (p.obj.length : Int)) := ⟨_, rfl⟩
  have hany : anyRow (fun r => (r.length : Int) != (p.obj.length : Int)) p.rows = decide (firstI q 0 p.rows.length ≥ 0) := by rw [hq]; rfl
  refine G.block (G.loop (fun k : Nat => St.of [(1, .v (.c (.ptr 1 0 0 0))), (3, .v (.c (.k (I k))))] [(1, .var 25 [.k (.slice Ao p.obj.length co), .inp 1001 Ar p.rows.length cr, .k (.slice Al p.lim.length cl)]), (1001, .ro 1 p.rows.length (fun i => [rowV p.rows vs0 i]))])
    (fun k => k ≤ p.rows.length ∧ firstI q 0 p.rows.length = firstI q k (p.rows.length - k)) (fun k => p.rows.length - k) 0 ⟨by omega, by simp⟩ (St.le_of rfl ⟨⟨_, rfl, Blk.le_refl _⟩, ⟨_, rfl, Blk.le_refl _⟩, trivial⟩ ⟨rfl, rfl, trivial⟩) ?_)
  rintro k ⟨hk, hfi⟩
  refine G.seq ?_
  refine G.seqR tfine rfl trivial ?_
  refine G.cond (b := decide ((k : Int) < (p.rows.length : Int))) rfl (fun h => ?_) (fun h => ?_)
  · have h := of_decide_eq_true h
    have hlt : k < p.rows.length := by omega
    rw [firstI_cons _ k _ (by omega)] at hfi
    refine G.skip ?_
    refine G.seq ?_
    refine G.block ?_
    refine G.seqD tfine hmix [0, 1, 0, 7, 15, 31, 0, 64, 192, 511] [] rfl rfl rfl rfl ⟨by omega, by omega, by omega, trivial⟩ ?_
    rw [Int.toNat_natCast]
    refine G.cond (b := q k) ?_ (fun h2 => ?_) (fun h2 => ?_)
    · rw [hq]; rfl
    · refine G.seqR tfine rfl trivial ?_
      refine G.ret (endK.ret rfl ?_)
      rw [checkM, if_neg g1, if_neg g2, if_pos (.inr (by rw [hany, hfi, if_pos h2]; simp))]
    · refine G.skip ?_
      refine G.reg tfine rfl trivial ?_
      rw [IntWalk.i64_in ((k : Int) + 1) (by omega)]
      rw [if_neg (by simpa using h2)] at hfi
      exact ⟨k + 1, ⟨by omega, by rw [hfi]; rfl⟩, (by show p.rows.length - (k + 1) < p.rows.length - k; omega), St.le_of rfl ⟨⟨_, rfl, Blk.le_refl _⟩, ⟨_, rfl, Blk.le_refl _⟩, trivial⟩ ⟨rfl, by simp [up, I], trivial⟩⟩
  have h := of_decide_eq_false h
  have : k = p.rows.length := by omega
  subst this
  have g3' : ¬ (p.lim.length ≠ p.rows.length ∨ anyRow (fun r => (r.length : Int) != (p.obj.length : Int)) p.rows = true) := by
    rw [hany, hfi]
    simp [firstI, g3]
  refine G.exit ?_
  refine G.seq ?_
  refine G.seqC tfine rfl trivial ?_
  refine GO.callPlain (v := .bool (!(anyBad p.obj))) rfl rfl rfl rfl (fun args w => Try.call52 args w) (fun ρ w1 hs hok => within_any badB2 1000 badB2_eq Ao co p.obj w1 (ho.below hs.fr.toBelow) h1) ?_
  refine GO.more tfine rfl ⟨id, trivial⟩ ?_
  refine GO.callGuard (.bool (!(anyBad p.lim))) rfl rfl rfl (by first | exact trivial | exact ⟨id, trivial⟩) rfl rfl (fun args w => Try.call52 args w) rfl (fun _ m' hle ρ w1 hs hok => within_any badB2 1000 badB2_eq Al cl p.lim w1 (hl.below hs.fr.toBelow) h3) ?_
  refine GO.fin tfine rfl ?_ ?_
  · first | trivial | (simp [AllP, condB]; done) | (simp only [AllP]; and_intros <;> first | trivial | decide | omega) | (simp [AllP, condB]; intros; and_intros <;> first | assumption | omega) | (simp [AllP, condB]; intros; simp_all; done)
  refine G.cond (b := anyBad p.obj || anyBad p.lim) ?_ (fun h => ?_) (fun h => ?_)
  · generalize anyBad p.obj = a
    generalize anyBad p.lim = b
    cases a <;> cases b <;> rfl
  · have h : anyBad p.obj = true ∨ anyBad p.lim = true := by simpa using h
    refine G.seqR tfine rfl trivial ?_
    exact G.ret (endK.ret rfl (by rw [checkM, if_neg g1, if_neg g2, if_neg g3', if_pos h]))
  have g4 : ¬ (anyBad p.obj = true ∨ anyBad p.lim = true) := by
    have h : anyBad p.obj = false ∧ anyBad p.lim = false := by simpa using h
    rw [h.1, h.2]; simp
  refine G.skip ?_
  refine G.seq ?_
  refine G.seqR tfine rfl trivial ?_
  obtain ⟨q, hq⟩ : ∃ q : Nat → Bool, q = fun i => anyBad (p.rows.getD i []) := ⟨_, rfl⟩
  have hany : anyRow anyBad p.rows = decide (firstI q 0 p.rows.length ≥ 0) := by rw [hq]; rfl
  refine G.block (G.loop (fun k : Nat => St.of [(1, .v (.c (.ptr 1 0 0 0))), (4, .v (.c (.k (I k))))] [(1, .var 25 [.k (.slice Ao p.obj.length co), .inp 1001 Ar p.rows.length cr, .k (.slice Al p.lim.length cl)]), (1001, .ro 1 p.rows.length (fun i => [rowV p.rows vs0 i]))])
    (fun k => k ≤ p.rows.length ∧ firstI q 0 p.rows.length = firstI q k (p.rows.length - k)) (fun k => p.rows.length - k) 0 ⟨by omega, by simp⟩ (St.le_of rfl ⟨⟨_, rfl, Blk.le_refl _⟩, ⟨_, rfl, Blk.le_refl _⟩, trivial⟩ ⟨rfl, rfl, trivial⟩) ?_)
  rintro k ⟨hk, hfi⟩
  refine G.seq ?_
  refine G.seqR tfine rfl trivial ?_
  refine G.cond (b := decide ((k : Int) < (p.rows.length : Int))) rfl (fun h => ?_) (fun h => ?_)
  · have h := of_decide_eq_true h
    have hlt : k < p.rows.length := by omega
    rw [firstI_cons _ k _ (by omega)] at hfi
    refine G.skip ?_
    refine G.seq ?_
    refine G.block ?_
    refine G.seqC tfine rfl ⟨by omega, by omega, by omega, trivial⟩ ?_
    rw [Int.toNat_natCast]
    refine GO.callPlain (v := .bool (!(anyBad (p.rows.getD k [])))) rfl rfl rfl rfl (fun args w => Try.call52 args w) (fun ρ w1 hs hok => ?_) ?_
    · obtain ⟨_, hrd⟩ := intsAt_row (rowV_eq hmat hlt ▸ hri k hlt : IntsAt w (rowV p.rows vs0 k) (p.rows.getD k []))
      exact within_any badB2 1000 badB2_eq _ _ (p.rows.getD k []) w1 (hrd.below hs.fr.toBelow) (hrow k hlt)
    refine GO.fin tfine rfl trivial ?_
    refine G.cond (b := q k) ?_ (fun h2 => ?_) (fun h2 => ?_)
    · rw [hq]
      show TV.v (.c (.k (.bool (!(!(anyBad (p.rows.getD k [])))))))  = _
      rw [Bool.not_not]
    · refine G.seqR tfine rfl trivial ?_
      refine G.ret (endK.ret rfl ?_)
      rw [checkM, if_neg g1, if_neg g2, if_neg g3', if_neg g4, if_pos (by rw [hany, hfi, if_pos h2]; simp)]
    · refine G.skip ?_
      refine G.reg tfine rfl trivial ?_
      rw [IntWalk.i64_in ((k : Int) + 1) (by omega)]
      rw [if_neg (by simpa using h2)] at hfi
      exact ⟨k + 1, ⟨by omega, by rw [hfi]; rfl⟩, (by show p.rows.length - (k + 1) < p.rows.length - k; omega), St.le_of rfl ⟨⟨_, rfl, Blk.le_refl _⟩, ⟨_, rfl, Blk.le_refl _⟩, trivial⟩ ⟨rfl, by simp [up, I], trivial⟩⟩
  have h := of_decide_eq_false h
  have : k = p.rows.length := by omega
  subst this
  refine G.exit ?_
  refine G.seqR tfine rfl trivial ?_
  refine G.ret (endK.ret rfl ?_)
  rw [checkM, if_neg g1, if_neg g2, if_neg g3', if_neg g4, if_neg (by rw [hany, hfi]; simp [firstI])]
theorem right_any (rv : Value) (r : Rat) (w : World) (hr : RatAt w rv r) (hrl : r.1.length ≤ 100000) (n : Nat) :
    Calls Try.prog 59 #[rv, I n] w fun e w' => e = .returned (.bool (((r.1.length : Int) == (n : Int)) && inM r.1 r.2)) ∧ Below w.heap.size w w' := by
  obtain ⟨nv, rfl, ⟨Ax, cx, rfl, hAx, hcx⟩⟩ := hr
  refine enterSay [] [.agg [.k (.slice Ax r.1.length cx), .k (I r.2)], .c (.k (I n))] [] Try.func59 rfl 25 Try.ntmps59 rfl rfl ⟨⟨trivial, trivial, trivial⟩, trivial, trivial⟩ trivial ?_
  refine G.seqR tfine rfl trivial ?_
  refine G.seqC tfine rfl ?_ ?_
  · first | trivial | (simp [AllP, condB]; done) | (simp only [AllP]; and_intros <;> first | trivial | decide | omega) | (simp [AllP, condB]; intros; and_intros <;> first | assumption | omega) | (simp [AllP, condB]; intros; simp_all; done)
  refine GO.callGuard (.bool (!(anyI inB r.1))) rfl rfl rfl ⟨id, trivial⟩ rfl rfl (fun args w => Try.call52 args w) rfl (fun hct m' hle ρ w1 hs hok => within_any inB 35184372088832 inB_eq Ax cx r.1 w1 (hAx.below hs.fr.toBelow) hrl) ?_
  refine GO.fin tfine rfl ?_ ?_
  · first | trivial | (simp [AllP, condB]; done) | (simp only [AllP]; and_intros <;> first | trivial | decide | omega) | (simp [AllP, condB]; intros; and_intros <;> first | assumption | omega) | (simp [AllP, condB]; intros; simp_all; done)
  refine G.ret (retK.plain tfine rfl ?_)
  rw [inM, anyB_eq, ← Bool.and_assoc, ← Bool.and_assoc]
theorem asks_any (p : Prob) (pv rv : Value) (vs0 : Nat → Value) (r : Rat) (w : World) (hp : ProbAt w pv p vs0) (hr : RatAt w rv r) (h1 : p.obj.length ≤ 100000) (h2 : p.rows.length ≤ 100000) (h3 : p.lim.length ≤ 100000) (h4 : ∀ r ∈ p.rows, r.length ≤ 100000) (hrl : r.1.length ≤ 100000) :
    Calls Try.prog 68 #[pv, rv] w fun e w' => e = .returned (I (readyM p r)) ∧ Below w.heap.size w w' := by
  have hp0 := hp
  obtain ⟨ov, rv2, lv, rfl, ⟨Ao, co, rfl, ho, hoc⟩, ⟨Ar, cr, rfl, hrr, hrc, hri⟩, ⟨Al, cl, rfl, hl, hlc⟩⟩ := hp
  obtain ⟨nv, rfl, ⟨Ax, cx, rfl, hAx, hcx⟩⟩ := hr
  refine enterSay [] [.agg [.k (.slice Ao p.obj.length co), .k (.slice Ar p.rows.length cr), .k (.slice Al p.lim.length cl)], .agg [.k (.slice Ax r.1.length cx), .k (I r.2)]] [] Try.func68 rfl 21 Try.ntmps68 rfl rfl ⟨⟨trivial, trivial, trivial, trivial⟩, ⟨trivial, trivial, trivial⟩, trivial⟩ trivial ?_
  refine G.seqR tfine rfl trivial ?_
  refine G.seq ?_
  refine G.seqC tfine rfl trivial ?_
  refine GO.callPlain (v := I (checkM p)) rfl rfl rfl rfl (fun args w => Try.call14 args w) (fun ρ w1 hs hok => refCheck_any p _ vs0 w1 (hp0.below hs.fr.toBelow) h1 h2 h3 h4) ?_
  refine GO.fin tfine rfl trivial ?_
  refine G.cond (b := checkM p != 0) rfl (fun h => ?_) (fun h => ?_)
  · have h : checkM p ≠ 0 := by simpa using h
    refine G.seqR tfine rfl trivial ?_
    exact G.ret (retK.plain tfine rfl (by rw [readyM, if_pos h]))
  have hc0 : ¬ checkM p ≠ 0 := by simpa using h
  refine G.skip ?_
  refine G.seq ?_
  refine G.seqR tfine rfl trivial ?_
  refine G.cond (b := (r.1.length : Int) != (p.obj.length : Int)) rfl (fun h => ?_) (fun h => ?_)
  · have h : ¬ (r.1.length : Int) = (p.obj.length : Int) := by simpa using h
    refine G.seqR tfine rfl trivial ?_
    exact G.ret (retK.plain tfine rfl (by rw [readyM, if_neg hc0, if_pos (by omega)]))
  have hl0 : (r.1.length : Int) = (p.obj.length : Int) := by simpa using h
  refine G.skip ?_
  refine G.seq ?_
  refine G.seqC tfine rfl trivial ?_
  refine GO.callPlain (v := .bool (inM r.1 r.2)) rfl rfl rfl rfl (fun args w => Try.call59 args w) (fun ρ w1 hs hok => ?_) ?_
  · have := right_any _ r w1 ⟨_, rfl, ⟨Ax, cx, rfl, hAx.below hs.fr.toBelow, hcx⟩⟩ hrl r.1.length
    rw [show (((r.1.length : Int) == (r.1.length : Int)) && inM r.1 r.2) = inM r.1 r.2 by simp] at this
    exact this
  refine GO.fin tfine rfl trivial ?_
  refine G.cond (b := !(inM r.1 r.2)) rfl (fun h => ?_) (fun h => ?_)
  · have h : inM r.1 r.2 = false := by simpa using h
    refine G.seqR tfine rfl trivial ?_
    exact G.ret (retK.plain tfine rfl (by rw [readyM, if_neg hc0, if_neg (by omega), if_pos h]))
  have h : ¬ inM r.1 r.2 = false := by simpa using h
  refine G.skip ?_
  refine G.seqR tfine rfl trivial ?_
  exact G.ret (retK.plain tfine rfl (by rw [readyM, if_neg hc0, if_neg (by omega), if_neg h]))
theorem refDot_any (A B : Option Addr) (c d : Nat) (a b : List Int) (w : World) (hA : RdRow w A a.length 1 (elI a)) (hB : RdRow w B b.length 1 (elI b)) (hab : a.length ≤ b.length) (hn : b.length < 4611686018427387904) :
    Calls Try.prog 61 #[.slice A a.length c, .slice B b.length d] w fun e w' => e = .returned (I (dotL a b)) ∧ Below w.heap.size w w' := by
  refine enterPlain tfine Try.func61 rfl 25 Try.ntmps61 [.c (.inp 1000 A a.length c), .c (.inp 1001 B b.length d)] [⟨1000, A, 1, a.length, elI a⟩, ⟨1001, B, 1, b.length, elI b⟩] rfl rfl ⟨hA, hB, trivial⟩ ⟨.inl ⟨rfl, rfl, rfl⟩, .inr ⟨nx rfl, .inl ⟨rfl, rfl, rfl⟩⟩, trivial⟩ ?_
  refine G.seqR tfine rfl trivial ?_
  refine G.seqR tfine rfl trivial ?_
  refine G.seq ?_
  refine G.seqR tfine rfl trivial ?_
  refine G.block (G.loop (fun k : Nat => St.of [(0, .v (.c (.inp 1000 A a.length c))), (1, .v (.c (.inp 1001 B b.length d))), (5, .v (.c (.k (I (dotN (fun k => a.getD k 0) (fun k => b.getD k 0) k))))), (6, .v (.c (.k (I k))))] [(1000, .ro 1 a.length (elI a)), (1001, .ro 1 b.length (elI b))])
    (fun k => k ≤ a.length) (fun k => a.length - k) 0 (by omega) (St.le_of rfl ⟨⟨_, rfl, Blk.le_refl _⟩, ⟨_, rfl, Blk.le_refl _⟩, trivial⟩ ⟨rfl, rfl, rfl, rfl, trivial⟩) ?_)
  rintro k hk
  refine G.seq ?_
  refine G.seqR tfine rfl trivial ?_
  refine G.cond (b := decide ((k : Int) < (a.length : Int))) rfl (fun h2 => ?_) (fun h2 => ?_)
  rotate_left
  · have h2 := of_decide_eq_false h2
    have : k = a.length := by omega
    subst this
    refine G.exit ?_
    refine G.seqR tfine rfl trivial ?_
    exact G.ret (endK.ret rfl rfl)
  have h2 := of_decide_eq_true h2
  have hlt : k < a.length := by omega
  refine G.skip ?_
  refine G.seq ?_
  refine G.block ?_
  refine G.regD tfine hmix [0, 0, 0, 6, 14, 0, 0, 96, 224, 510, 1023, 2047] [] rfl rfl rfl rfl ⟨by omega, by omega, by omega, by omega, by omega, by omega, trivial⟩ ?_
  rw [Int.toNat_natCast]
  refine G.reg tfine rfl trivial ?_
  rw [IntWalk.i64_in ((k : Int) + 1) (by omega)]
  exact ⟨k + 1, by omega, (by show a.length - (k + 1) < a.length - k; omega), St.le_of rfl ⟨⟨_, rfl, Blk.le_refl _⟩, ⟨_, rfl, Blk.le_refl _⟩, trivial⟩ ⟨rfl, rfl, rfl, by simp [up, I], trivial⟩⟩
theorem same_any (A B : Option Addr) (c d : Nat) (a b : List Int) (w : World) (h1 : RdRow w A a.length 1 (elI a)) (h2 : RdRow w B b.length 1 (elI b)) (m1 : a.length ≤ 1000000) :
    Calls Try.prog 53 #[.slice A a.length c, .slice B b.length d] w fun e w' => e = .returned (.bool (eqI a b)) ∧ Below w.heap.size w w' := by
  refine enterPlain tfine Try.func53 rfl 26 Try.ntmps53 [.c (.inp 1000 A a.length c), .c (.inp 1001 B b.length d)] [⟨1000, A, 1, a.length, elI a⟩, ⟨1001, B, 1, b.length, elI b⟩] rfl rfl ⟨h1, h2, trivial⟩ ⟨.inl ⟨rfl, rfl, rfl⟩, .inr ⟨nx rfl, .inl ⟨rfl, rfl, rfl⟩⟩, trivial⟩ ?_
  refine G.seqR tfine rfl trivial ?_
  refine G.seq ?_
  refine G.seqR tfine rfl trivial ?_
  refine G.cond (b := ((a.length : Int) != (b.length : Int))) rfl (fun h => ?_) (fun h => ?_)
  · refine G.seqR tfine rfl trivial ?_
    refine G.ret (endK.ret rfl ?_)
    have : ((a.length : Int) == (b.length : Int)) = false := by simpa using h
    rw [eqI, this]
    rfl
  have hlen : a.length = b.length := by
    have : ((a.length : Int)) = (b.length : Int) := by simpa using h
    omega
  have hq : eqI a b = !((List.range' 0 a.length).any fun k => a.getD k 0 != b.getD k 0) := by
    rw [eqI, hlen]; simp
  rw [hq]
  refine G.skip ?_
  refine G.seq (G.seqR tfine rfl trivial ?_)
  refine G.block (G.loop (fun k : Nat => St.of [(0, .v (.c (.inp 1000 A a.length c))), (1, .v (.c (.inp 1001 B b.length d))), (5, .v (.c (.k (I k))))] [(1000, .ro 1 a.length (elI a)), (1001, .ro 1 b.length (elI b))])
    (fun k => k ≤ a.length ∧ (List.range' 0 a.length).any (fun k => a.getD k 0 != b.getD k 0) = (List.range' k (a.length - k)).any (fun k => a.getD k 0 != b.getD k 0)) (fun k => a.length - k) 0 ⟨by omega, rfl⟩ (St.le_of rfl ⟨⟨_, rfl, Blk.le_refl _⟩, ⟨_, rfl, Blk.le_refl _⟩, trivial⟩ ⟨rfl, rfl, rfl, trivial⟩) ?_)
  rintro k ⟨hk, hfi⟩
  refine G.seq ?_
  refine G.seqR tfine rfl trivial ?_
  refine G.cond (b := decide ((k : Int) < (a.length : Int))) rfl (fun h => ?_) (fun h => ?_)
  rotate_left
  · have h := of_decide_eq_false h
    have : k = a.length := by omega
    subst this
    refine G.exit ?_
    refine G.seqR tfine rfl trivial ?_
    refine G.ret (endK.ret rfl ?_)
    rw [hfi, Nat.sub_self]
    rfl
  have h := of_decide_eq_true h
  have hlt : k < a.length := by omega
  rw [any_step hlt] at hfi
  refine G.skip ?_
  refine G.seq (G.block ?_)
  refine G.seqD tfine hmix [0, 0, 3, 7, 0, 0, 48, 112, 255] [] rfl rfl rfl rfl ?_ ?_
  · simp [AllP]
    omega
  rw [Int.toNat_natCast]
  refine G.cond (b := (a.getD k 0 != b.getD k 0)) rfl (fun h2 => ?_) (fun h2 => ?_)
  · refine G.seqR tfine rfl trivial ?_
    refine G.ret (endK.ret rfl ?_)
    rw [hfi, h2]
    rfl
  · rw [h2, Bool.false_or] at hfi
    refine G.skip ?_
    refine G.reg tfine rfl trivial ?_
    rw [IntWalk.i64_in ((k : Int) + 1) (by omega)]
    exact ⟨k + 1, ⟨by omega, hfi⟩, (by show a.length - (k + 1) < a.length - k; omega), St.le_of rfl ⟨⟨_, rfl, Blk.le_refl _⟩, ⟨_, rfl, Blk.le_refl _⟩, trivial⟩ ⟨rfl, rfl, by simp [up, I], trivial⟩⟩
def sameR (a b : Rat) : Bool := (a.2 == b.2) && eqI a.1 b.1
theorem SameRatios_any (av bv : Value) (a b : Rat) (w : World) (ha : RatAt w av a) (hb : RatAt w bv b) (m1 : a.1.length ≤ 1000000) :
    Calls Try.prog 20 #[av, bv] w fun e w' => e = .returned (.bool (sameR a b)) ∧ Below w.heap.size w w' := by
  obtain ⟨nv, rfl, ⟨Ax, cx, rfl, hAx, hcx⟩⟩ := ha
  obtain ⟨nv, rfl, ⟨Bx, dx, rfl, hBx, hdx⟩⟩ := hb
  refine enterSay [] [.agg [.k (.slice Ax a.1.length cx), .k (I a.2)], .agg [.k (.slice Bx b.1.length dx), .k (I b.2)]] [] Try.func20 rfl 17 Try.ntmps20 rfl rfl ⟨⟨trivial, trivial, trivial⟩, ⟨trivial, trivial, trivial⟩, trivial⟩ trivial ?_
  refine G.seqR tfine rfl trivial ?_
  refine G.seqC tfine rfl ?_ ?_
  · first | trivial | (simp [AllP, condB]; done) | (simp only [AllP]; and_intros <;> first | trivial | decide | omega) | (simp [AllP, condB]; intros; and_intros <;> first | assumption | omega) | (simp [AllP, condB]; intros; simp_all; done)
  refine GO.callGuard (.bool (eqI a.1 b.1)) rfl rfl rfl ⟨id, id, trivial⟩ rfl rfl (fun args w => Try.call53 args w) rfl (fun hct m' hle ρ w1 hs hok => same_any Ax Bx cx dx a.1 b.1 w1 (hAx.below hs.fr.toBelow) (hBx.below hs.fr.toBelow) m1) ?_
  refine GO.fin tfine rfl ?_ ?_
  · first | trivial | (simp [AllP, condB]; done) | (simp only [AllP]; and_intros <;> first | trivial | decide | omega) | (simp [AllP, condB]; intros; and_intros <;> first | assumption | omega) | (simp [AllP, condB]; intros; simp_all; done)
  exact G.ret (retK.plain tfine rfl rfl)
end Go.Proofs.Ytafhnfcahhlanaa
/- Chapter 27: the reference's divisor, minus, unit, shorten. -/
set_option linter.unusedVariables false
set_option linter.unusedSimpArgs false
set_option maxRecDepth 8000
set_option maxHeartbeats 2000000
namespace Go.Proofs.Ytafhnfcahhlanaa
open Go.Sx Go.RowKit
theorem gcd_neg_step {a b : Nat} {x : Int} (h : x = (b : Int)) : Nat.gcd a x.natAbs = Nat.gcd a b := by rw [h, Int.natAbs_natCast]
theorem refDiv_any (a : Nat) (b : Int) (w : World) (ha : a < 9223372036854775808) (hb : -9223372036854775808 < b) (hb2 : b < 9223372036854775808) :
    Calls Try.prog 89 #[I a, I b] w fun e w' => e = .returned (I (Nat.gcd a b.natAbs)) ∧ Below w.heap.size w w' := by
  refine enterPlain tfine Try.func89 rfl 20 Try.ntmps89 [.c (.k (I a)), .c (.k (I b))] [] rfl rfl trivial ⟨trivial, trivial, trivial⟩ ?_
  refine G.seqR tfine rfl trivial ?_
  refine G.seq ?_
  refine G.seqR tfine rfl trivial ?_
  refine G.cond_false (by show TV.v (.c (.k (.bool (decide ((a : Int) < 0))))) = _; rw [decide_eq_false (by omega)]) ?_
  refine G.skip ?_
  refine G.join (fun _ : Unit => St.of [(0, .v (.c (.k (I a)))), (1, .v (.c (.k (I b.natAbs))))] []) (fun _ => True) ?_ ?_
  · refine G.seqR tfine rfl trivial ?_
    refine G.cond (b := decide (b < 0)) rfl (fun h => ?_) (fun h => ?_)
    · have h := of_decide_eq_true h
      refine G.reg tfine rfl trivial ?_
      refine ⟨(), trivial, St.le_of rfl trivial ⟨rfl, ?_, trivial⟩⟩
      rw [show ((b.natAbs : Nat) : Int) = 0 - b by omega]
      show TV.v (.c (.k (I (W (0 - b))))) = _
      rw [show W (0 - b) = 0 - b from IntWalk.i64_in (0 - b) (by omega)]
    · have h := of_decide_eq_false h
      refine G.skip ?_
      refine ⟨(), trivial, St.le_of rfl trivial ⟨rfl, ?_, trivial⟩⟩
      rw [show ((b.natAbs : Nat) : Int) = b by omega]
      rfl
  rintro _ _
  show G _ _ _ _ (St.of [(0, .v (.c (.k (I a)))), (1, .v (.c (.k (I b.natAbs))))] [])
  refine G.seq ?_
  refine G.block (G.loop (fun z : Nat × Nat => St.of [(0, .v (.c (.k (I z.1)))), (1, .v (.c (.k (I z.2))))] [])
    (fun z => Nat.gcd z.1 z.2 = Nat.gcd a b.natAbs) (fun z => z.2) (a, b.natAbs) rfl (St.le_of rfl trivial ⟨rfl, rfl, trivial⟩) ?_)
  rintro ⟨g, x⟩ hg
  simp only at hg
  refine G.seq (G.seqR tfine rfl trivial ?_)
  refine G.cond (b := (x : Int) != 0) rfl (fun h3 => ?_) (fun h3 => ?_)
  rotate_left
  · have h3 : (x : Int) = 0 := by simpa using h3
    have hx0 : x = 0 := by omega
    subst hx0
    rw [Nat.gcd_zero_right] at hg
    refine G.exit ?_
    refine G.seqR tfine rfl trivial ?_
    exact G.ret (endK.ret rfl (by rw [hg]))
  have h3 : ¬ (x : Int) = 0 := by simpa using h3
  refine G.skip ?_
  refine G.block ?_
  refine G.regD tfine hmix [0, 0, 0, 6, 3, 31] [] rfl rfl rfl rfl ⟨by omega, trivial⟩ ?_
  have e : Int.tmod (g : Int) (x : Int) = ((g % x : Nat) : Int) := tmod_nat g x
  exact ⟨(x, g % x), by simp only; rw [gcd_step (by omega)]; exact hg, Nat.mod_lt _ (by omega), St.le_of rfl trivial ⟨rfl, by rw [← e]; rfl, trivial⟩⟩
theorem refUnit_any (n p : Nat) (w : World) (hp : p < n) (hn : n ≤ 1000000) :
    Calls Try.prog 86 #[I n, I p] w fun e w' => Ans w w' [.agg [.r n 1 (elI (unitL n p)), .p (I 0)]] e ∧ Below w.heap.size w w' := by
  refine enterAns tfine _ Try.func86 rfl 13 Try.ntmps86 [.c (.k (I n)), .c (.k (I p))] [] rfl rfl trivial ⟨trivial, trivial, trivial⟩ ?_
  refine G.seqR tfine rfl trivial ?_
  refine G.seqC tfine rfl trivial ?_
  refine GO.make1 n apT35 rfl rfl rfl rfl rfl rfl rfl rfl rfl (by unfold maxLen; omega) (by omega) (fun h0 => by omega) (fun _ c hc => ?_)
  refine GO.fin tfine rfl trivial ?_
  refine G.seqR tfine rfl ⟨by omega, by omega, by omega, trivial⟩ ?_
  rw [Int.toNat_natCast]
  refine G.seqR tfine rfl trivial ?_
  refine G.ret (endAns.ret ⟨⟨_, rfl, ⟨⟨hc, rfl, rfl, rfl, by omega, fun i hi => ?_⟩, rfl, trivial⟩⟩, trivial⟩)
  simp only [elI, unitL]
  rw [List.getD_eq_getElem?_getD, List.getElem?_map, List.getElem?_range hi]
  by_cases e : i = p
  · subst e; simp
  · simp [e, nbeq e]
def negK (l : List Int) (k : Nat) : List Int := (negW l).take k
theorem negK_succ (l : List Int) (k : Nat) (h : k < l.length) : negK l (k + 1) = negK l k ++ [W (0 - l.getD k 0)] := by
  rw [negK, negK, List.take_succ_eq_append_getElem (by rw [negW_len]; exact h)]
  congr 2
  have := negW_get l k h
  rw [List.getD_eq_getElem?_getD, List.getElem?_eq_getElem (by rw [negW_len]; exact h)] at this
  exact this
theorem negK_len (l : List Int) (k : Nat) (h : k ≤ l.length) : (negK l k).length = k := by rw [negK, List.length_take, negW_len]; omega
theorem refMinus_any (A : Option Addr) (c0 : Nat) (l : List Int) (w : World) (hA : RdRow w A l.length 1 (elI l)) (hn : l.length ≤ 100000) :
    Calls Try.prog 46 #[.slice A l.length c0] w fun e w' => Ans w w' [.c (.r l.length 1 (elI (negW l)))] e ∧ Below w.heap.size w w' := by
  refine enterAns tfine _ Try.func46 rfl 21 Try.ntmps46 [.c (.inp 1000 A l.length c0)] [⟨1000, A, 1, l.length, elI l⟩] rfl rfl ⟨hA, trivial⟩ ⟨.inl ⟨rfl, rfl, rfl⟩, trivial⟩ ?_
  refine G.seqR tfine rfl trivial ?_
  refine G.seqC tfine rfl trivial ?_
  refine GO.emptySliceS tfine rfl rfl rfl rfl rfl rfl rfl fun A0 hA0 => ?_
  refine GO.fin tfine rfl trivial ?_
  refine G.seq ?_
  refine G.seqR tfine rfl trivial ?_
  refine G.newNil 19 1 (elI []) rfl ?_
  refine G.block (G.loop (fun z : Nat × Nat => St.of [(0, .v (.c (.inp 1000 A l.length c0))), (3, .v (.c (accVA A0 19 1 z.1 z.2))), (4, .v (.c (.k (I z.1))))] [(19, accB 3 1 z.1 z.2 (elI (negK l z.1))), (1000, .ro 1 l.length (elI l))])
    (fun z => z.1 ≤ l.length ∧ z.1 ≤ z.2) (fun z => l.length - z.1) (0, 0) ⟨Nat.zero_le _, Nat.le_refl _⟩ (St.le_of rfl ⟨⟨_, rfl, Blk.le_refl _⟩, ⟨_, rfl, Blk.le_refl _⟩, trivial⟩ ⟨rfl, rfl, rfl, trivial⟩) ?_)
  rintro ⟨k, cp⟩ ⟨hk, hcp⟩
  simp only at hk hcp
  refine G.seq ?_
  refine G.seqR tfine rfl trivial ?_
  refine G.cond (b := decide ((k : Int) < (l.length : Int))) rfl (fun h2 => ?_) (fun h2 => ?_)
  rotate_left
  · have h2 := of_decide_eq_false h2
    have : k = l.length := by omega
    subst this
    refine G.exit ?_
    rcases hq : l.length with _ | q
    · refine G.seqR tfine rfl trivial ?_
      exact G.ret (endAns.ret ⟨⟨_, rfl, ⟨rfl, rfl, hA0⟩⟩, trivial⟩)
    · rw [hq] at hcp
      have e : negK l (q + 1) = negW l := List.take_of_length_le (by rw [negW_len]; omega)
      refine G.seqR tfine rfl trivial ?_
      exact G.ret (endAns.ret ⟨⟨_, rfl, ⟨hcp, rfl, rfl, rfl, by omega, fun i hi => by rw [Nat.zero_add, e]⟩⟩, trivial⟩)
  have h2 := of_decide_eq_true h2
  have hlt : k < l.length := by omega
  refine G.skip ?_
  refine G.seq ?_
  refine G.block ?_
  refine G.region_lit ?_
  refine GO.moveAny tfine rfl (.inl rfl) rfl rfl rfl ?_
  refine GO.more tfine rfl ⟨by omega, by omega, by omega, trivial⟩ ?_
  rw [Int.toNat_natCast]
  refine GO.appendAccAB (n := k) (c := cp) (el := elI (negK l k)) [I (W (0 - l.getD k 0))] [(0, .v (.c (.inp 1000 A l.length c0))), (4, .v (.c (.k (I k))))] [(1000, .ro 1 l.length (elI l))] apT35 rfl rfl rfl rfl rfl rfl rfl rfl rfl rfl (fun u hu => by simp at hu; subst hu; rfl)
    (St.le_of rfl ⟨⟨_, rfl, Blk.le_refl _⟩, trivial⟩ ⟨rfl, rfl, trivial⟩) (subM.fr ⟨rfl, nx rfl, trivial⟩) (fun k hk => rfl) (by unfold maxLen; omega) (by omega) fun c' hc' => ?_
  refine GO.fin tfine rfl trivial ?_
  refine G.reg tfine rfl trivial ?_
  rw [IntWalk.i64_in ((k : Int) + 1) (by omega)]
  refine ⟨(k + 1, c'), ⟨by simp only; omega, hc'⟩, (by show l.length - (k + 1) < l.length - k; omega), ?_⟩
  refine St.le_of rfl ⟨⟨_, rfl, rfl, rfl, Nat.le_refl _, (fun j hj => ?_), Nat.le_refl _⟩, ⟨_, rfl, Blk.le_refl _⟩, trivial⟩ ⟨rfl, rfl, by simp [up, I], trivial⟩
  have := elI_snoc (negK l k) (W (0 - l.getD k 0)) j (by rw [negK_len l k hk]; exact hj)
  rw [negK_len l k hk, ← negK_succ l k hlt] at this
  exact this.symm
end Go.Proofs.Ytafhnfcahhlanaa
/- Chapter 27: the reference's ratios in lowest terms. -/
set_option linter.unusedVariables false
set_option linter.unusedSimpArgs false
set_option maxRecDepth 8000
set_option maxHeartbeats 2000000
namespace Go.Proofs.Ytafhnfcahhlanaa
open Go.Sx Go.RowKit
def gN (o : Int) (l : List Int) : Nat → Nat
  | 0 => o.toNat
  | k + 1 => Nat.gcd (gN o l k) (l.getD k 0).natAbs
theorem absW_nat {x : Int} (h : -9223372036854775808 < x) (h2 : x ≤ 9223372036854775807) : (absW x).toNat = x.natAbs := by
  unfold absW
  rw [show W (0 - x) = 0 - x from IntWalk.i64_in (0 - x) (by omega)]
  split <;> omega
theorem gN_eq (o : Int) (l : List Int) (h : ∀ k, k < l.length → -9223372036854775808 < l.getD k 0 ∧ l.getD k 0 ≤ 9223372036854775807) : ∀ k, k ≤ l.length → gN o l k = Nat.gcd (divN l k) o.toNat
  | 0, _ => by simp [gN, divN]
  | k + 1, hk => by
    have h1 := h k (by omega)
    rw [gN, divN, gN_eq o l h k (by omega), absW_nat h1.1 h1.2, Nat.gcd_assoc, Nat.gcd_assoc, Nat.gcd_comm o.toNat]
theorem divN_app (l : List Int) (x : Int) : ∀ k, k ≤ l.length → divN (l ++ [x]) k = divN l k
  | 0, _ => rfl
  | k + 1, hk => by
    rw [divN, divN, divN_app l x k (by omega)]
    congr 3
    rw [List.getD_eq_getElem?_getD, List.getD_eq_getElem?_getD, List.getElem?_append_left (by omega)]
theorem gN_gL (o : Int) (l : List Int) (h : ∀ k, k < l.length → -9223372036854775808 < l.getD k 0 ∧ l.getD k 0 ≤ 9223372036854775807) (h1 : 1 ≤ o) (h2 : o ≤ 9223372036854775807) : (gN o l l.length : Int) = gL l o := by
  rw [gN_eq o l h _ (Nat.le_refl _), gL, divM, List.length_append, List.length_singleton, divN, divN_app l o _ (Nat.le_refl _)]
  have : (l ++ [o]).getD l.length 0 = o := by simp [List.getD_eq_getElem?_getD]
  rw [this, absW_nat (by omega) h2]
  congr 2
  omega
theorem gN_bound (o : Int) (l : List Int) (h1 : 1 ≤ o) (h2 : o ≤ 9223372036854775807) : ∀ k, 0 < gN o l k ∧ gN o l k < 9223372036854775808
  | 0 => by rw [gN]; omega
  | k + 1 => by
    obtain ⟨a, b⟩ := gN_bound o l h1 h2 k
    rw [gN]
    exact ⟨Nat.gcd_pos_of_pos_left _ a, Nat.lt_of_le_of_lt (Nat.gcd_le_left _ a) b⟩
theorem refShorten_any (A : Option Addr) (c0 : Nat) (l : List Int) (over : Int) (w : World) (hA : RdRow w A l.length 1 (elI l)) (hn : l.length ≤ 100000) (h1 : 1 ≤ over) (h2 : over ≤ 9223372036854775807) (hl : ∀ k, k < l.length → -9223372036854775808 < l.getD k 0 ∧ l.getD k 0 ≤ 9223372036854775807) :
    Calls Try.prog 69 #[.agg #[.slice A l.length c0, I over]] w fun e w' => Ans w w' [.agg [.r (lowL l over).length 1 (elI (lowL l over)), .p (I (lowO l over))]] e ∧ Below w.heap.size w w' := by
  have hg : gL l over ≠ 0 := by
    rw [← gN_gL over l hl h1 h2]
    have := (gN_bound over l h1 h2 l.length).1
    omega
  refine enterAns tfine _ Try.func69 rfl 48 Try.ntmps69 [.agg [.inp 1000 A l.length c0, .k (I over)]] [⟨1000, A, 1, l.length, elI l⟩] rfl rfl ⟨hA, trivial⟩ ⟨⟨.inl ⟨rfl, rfl, rfl⟩, trivial, trivial⟩, trivial⟩ ?_
  refine G.seqR tfine rfl trivial ?_
  refine G.seqR tfine rfl trivial ?_
  refine G.seq ?_
  refine G.seqR tfine rfl trivial ?_
  refine G.block (G.loop (fun k : Nat => St.of [(1, .v (.c (.ptr 1 0 0 0))), (2, .v (.c (.ptr 2 0 0 0))), (3, .v (.c (.k (I (gN over l k))))), (4, .v (.c (.k (I k))))]
      [(1, .var 29 [.inp 1000 A l.length c0, .k (I over)]), (2, .var 29 [.k (.slice none 0 0), .k (I 0)]), (1000, .ro 1 l.length (elI l))])
    (fun k => k ≤ l.length) (fun k => l.length - k) 0 (Nat.zero_le _) (St.le_of rfl ⟨⟨_, rfl, Blk.le_refl _⟩, ⟨_, rfl, Blk.le_refl _⟩, ⟨_, rfl, Blk.le_refl _⟩, trivial⟩ ⟨rfl, rfl, (by show TV.v (.c (.k (I over))) = .v (.c (.k (I ((over.toNat : Nat) : Int)))); rw [Int.toNat_of_nonneg (by omega)]), rfl, trivial⟩) ?_)
  rintro k hk
  refine G.seq ?_
  refine G.seqR tfine rfl trivial ?_
  refine G.cond (b := decide ((k : Int) < (l.length : Int))) rfl (fun h5 => ?_) (fun h5 => ?_)
  · have h5 := of_decide_eq_true h5
    have hlt : k < l.length := by omega
    refine G.skip ?_
    refine G.seq ?_
    refine G.block ?_
    refine G.regC tfine rfl ⟨by omega, by omega, by omega, trivial⟩ ?_
    rw [Int.toNat_natCast]
    refine GO.callPlain (v := I (gN over l (k + 1))) rfl rfl rfl rfl (fun args w => Try.call89 args w) (fun ρ w hs hok => refDiv_any (gN over l k) (l.getD k 0) w (gN_bound over l h1 h2 k).2 (hl k hlt).1 (by have := (hl k hlt).2; omega)) ?_
    refine GO.fin tfine rfl trivial ?_
    refine G.reg tfine rfl trivial ?_
    rw [IntWalk.i64_in ((k : Int) + 1) (by omega)]
    exact ⟨k + 1, by omega, (by show l.length - (k + 1) < l.length - k; omega), St.le_of rfl ⟨⟨_, rfl, Blk.le_refl _⟩, ⟨_, rfl, Blk.le_refl _⟩, ⟨_, rfl, Blk.le_refl _⟩, trivial⟩ ⟨rfl, rfl, rfl, by simp [up, I], trivial⟩⟩
  have h5 := of_decide_eq_false h5
  have : k = l.length := by omega
  subst this
  refine G.exit ?_
  rw [gN_gL over l hl h1 h2]
  refine G.seqR tfine rfl ⟨hg, trivial⟩ ?_
  refine G.seq ?_
  refine G.seqR tfine rfl trivial ?_
  refine G.newNil 833 1 (elI []) rfl ?_
  refine G.block (G.loop (fun z : Nat × Nat => St.of [(1, .v (.c (.ptr 1 0 0 0))), (2, .v (.c (.ptr 2 0 0 0))), (3, .v (.c (.k (I (gL l over))))), (5, .v (.c (.ptr 5 0 0 0))), (6, .v (.c (.k (I z.1))))]
      [(1, .var 29 [.inp 1000 A l.length c0, .k (I over)]), (2, .var 29 [.k (.slice none 0 0), .k (I 0)]), (5, .var 29 [accV 833 1 z.1 z.2, .k (I (lowO l over))]), (833, accB 3 1 z.1 z.2 (elI ((lowL l over).take z.1))), (1000, .ro 1 l.length (elI l))])
      (fun z => z.1 ≤ l.length ∧ z.1 ≤ z.2) (fun z => l.length - z.1) (0, 0) ⟨Nat.zero_le _, Nat.le_refl _⟩ (St.le_of rfl ⟨⟨_, rfl, Blk.le_refl _⟩, ⟨_, rfl, Blk.le_refl _⟩, ⟨_, rfl, Blk.le_refl _⟩, ⟨_, rfl, Blk.le_refl _⟩, ⟨_, rfl, Blk.le_refl _⟩, trivial⟩ ⟨rfl, rfl, rfl, rfl, rfl, trivial⟩) ?_)
  clear h5 hk
  rintro ⟨k, cp⟩ ⟨hk, hcp⟩
  simp only at hk hcp
  have hlen : (lowL l over).length = l.length := by simp [lowL]
  refine G.seq ?_
  refine G.seqR tfine rfl trivial ?_
  refine G.cond (b := decide ((k : Int) < (l.length : Int))) rfl (fun h5 => ?_) (fun h5 => ?_)
  rotate_left
  · have h5 := of_decide_eq_false h5
    have : k = l.length := by omega
    subst this
    refine G.exit ?_
    rw [List.take_of_length_le (by omega), hlen]
    rcases hq : l.length with _ | q
    · refine G.seqR tfine rfl trivial ?_
      exact G.ret (endAns.ret ⟨⟨_, rfl, ⟨⟨rfl, rfl, fun a h => by cases h⟩, rfl, trivial⟩⟩, trivial⟩)
    · rw [hq] at hcp
      refine G.seqR tfine rfl trivial ?_
      exact G.ret (endAns.ret ⟨⟨_, rfl, ⟨⟨hcp, rfl, rfl, rfl, (by omega), fun i hi => by rw [Nat.zero_add]⟩, rfl, trivial⟩⟩, trivial⟩)
  have h5 := of_decide_eq_true h5
  have hlt : k < l.length := by omega
  refine G.skip ?_
  refine G.seq ?_
  refine G.block ?_
  obtain ⟨v, hv⟩ : ∃ v, v = W ((l.getD k 0).tdiv (gL l over)) := ⟨_, rfl⟩
  have hvl : (lowL l over).take (k + 1) = (lowL l over).take k ++ [v] := by
    rw [List.take_succ_eq_append_getElem (by omega)]
    congr 2
    rw [hv]
    simp [lowL, List.getD_eq_getElem?_getD, List.getElem?_eq_getElem hlt]
  have hlk : ((lowL l over).take k).length = k := by rw [List.length_take]; omega
  have hsn : ∀ j, j < k + 1 → elI ((lowL l over).take (k + 1)) j = elN (elI ((lowL l over).take k)) k [I v] j := fun j hj => by
    have := elI_snoc ((lowL l over).take k) v j (by rw [hlk]; exact hj)
    rw [hlk] at this
    rw [hvl, this]
  rcases k with _ | k
  · apply G.drawC (ch := fun j => match j with | 10 => some (accF 833 45 (0 + 1) 1 3 (elN (elI ((lowL l over).take 0)) 0 [I v])) | _ => none) (cls := [0, 1, 0, 4, 0, 28, 60, 0, 252, 508, 1023, 2047, 4095]) (X := [(10, 45), (10, 833), (12, 5)]) hmix rfl rfl rfl
    · intro c
      refine GC.more tfine 0 rfl rfl rfl ⟨hg, by simp only; omega, by simp only; omega, by simp only; omega, trivial⟩ ?_
      simp only
      rw [Int.toNat_natCast]
      refine GC.choice 10 rfl _ rfl (StepsC.appendAcc (n := 0) (c := cp) [I v] apT35 rfl rfl rfl rfl rfl rfl rfl rfl rfl rfl rfl (by rw [hv]; rfl) rfl (fun u hu => by simp at hu; subst hu; rfl) (fun k hk => rfl) (by unfold maxLen; omega) (by omega)) rfl accF_nm rfl ?_
      refine GC.more tfine 11 rfl rfl rfl trivial ?_
      refine GC.nil ?_
      refine G.weaken (st' := St.of [(1, .v (.c (.ptr 1 0 0 0))), (2, .v (.c (.ptr 2 0 0 0))), (3, .v (.c (.k (I (gL l over))))), (5, .v (.c (.ptr 5 0 0 0))), (6, .v (.c (.k (I (0 : Nat)))))]
        [(1, .var 29 [.inp 1000 A l.length c0, .k (I over)]), (2, .var 29 [.k (.slice none 0 0), .k (I 0)]), (5, .var 29 [.slc 45 0 1 (0 + 1) (capN (0 + 1) (c 10)), .k (I (lowO l over))]), (45, .arr 3 1 (0 + 1) (elN (elI ((lowL l over).take 0)) 0 [I v]) ((capN (0 + 1) (c 10) - (0 + 1)) * 1)), (1000, .ro 1 l.length (elI l))])
        (St.le_of rfl ⟨⟨_, rfl, Blk.le_refl _⟩, ⟨_, rfl, Blk.le_refl _⟩, ⟨_, rfl, Blk.le_refl _⟩, ⟨_, rfl, Blk.le_refl _⟩, ⟨_, rfl, Blk.le_refl _⟩, trivial⟩ ⟨rfl, rfl, rfl, rfl, rfl, trivial⟩) ?_
      refine G.rn 45 833 rfl trivial rfl rfl rfl ?_
      refine G.reg tfine rfl trivial ?_
      refine ⟨(0 + 1, capN (0 + 1) (c 10)), ⟨by simp only; omega, capN_le _ _⟩, (by show l.length - (0 + 1) < l.length - 0; omega), ?_⟩
      exact St.le_of rfl ⟨⟨_, rfl, Blk.le_refl _⟩, ⟨_, rfl, Blk.le_refl _⟩, ⟨_, rfl, Blk.le_refl _⟩, ⟨_, rfl, rfl, rfl, Nat.le_refl _, hsn, Nat.le_refl _⟩, ⟨_, rfl, Blk.le_refl _⟩, trivial⟩ ⟨rfl, rfl, rfl, rfl, by first | rfl | (simp [up, I, rnS, rnTV, rnAV, rnAC]; rw [IntWalk.i64_in _ (by omega)]), trivial⟩
    ·
      intro c c' j hj h
      have hj : j < 13 := hj
      match j, hj, h with
      | 0, _, h => first | rfl | (show some _ = some _; done)
      | 1, _, h => first | rfl | (show some _ = some _; done)
      | 2, _, h => first | rfl | (show some _ = some _; done)
      | 3, _, h => first | rfl | (show some _ = some _; done)
      | 4, _, h => first | rfl | (show some _ = some _; done)
      | 5, _, h => first | rfl | (show some _ = some _; done)
      | 6, _, h => first | rfl | (show some _ = some _; done)
      | 7, _, h => first | rfl | (show some _ = some _; done)
      | 8, _, h => first | rfl | (show some _ = some _; done)
      | 9, _, h => first | rfl | (show some _ = some _; done)
      | 10, _, h => first | rfl | (show some _ = some _; (try rw [h 10 (.inl rfl)]); (try rw [h 10 (.inr ⟨rfl, rfl⟩)]); done)
      | 11, _, h => first | rfl | (show some _ = some _; (try rw [h 10 (.inl rfl)]); (try rw [h 10 (.inr ⟨rfl, rfl⟩)]); done)
      | 12, _, h => first | rfl | (show some _ = some _; (try rw [h 10 (.inl rfl)]); (try rw [h 10 (.inr ⟨rfl, rfl⟩)]); done)
      | q + 13, hj, h => exact absurd hj (by omega)
  · apply G.drawC (ch := fun j => match j with | 10 => some (accF 833 45 ((k + 1) + 1) 1 3 (elN (elI ((lowL l over).take (k + 1))) (k + 1) [I v])) | _ => none) (cls := [0, 1, 0, 4, 0, 28, 60, 0, 252, 508, 1023, 2047, 4095]) (X := [(10, 45), (10, 833), (12, 5)]) hmix rfl rfl rfl
    · intro c
      refine GC.more tfine 0 rfl rfl rfl ⟨hg, by simp only; omega, by simp only; omega, by simp only; omega, trivial⟩ ?_
      simp only
      rw [Int.toNat_natCast]
      refine GC.choice 10 rfl _ rfl (StepsC.appendAcc (n := (k + 1)) (c := cp) [I v] apT35 rfl rfl rfl rfl rfl rfl rfl rfl rfl rfl rfl (by rw [hv]; rfl) rfl (fun u hu => by simp at hu; subst hu; rfl) (fun k hk => rfl) (by unfold maxLen; omega) (by omega)) rfl accF_nm rfl ?_
      refine GC.more tfine 11 rfl rfl rfl trivial ?_
      refine GC.nil ?_
      refine G.weaken (st' := St.of [(1, .v (.c (.ptr 1 0 0 0))), (2, .v (.c (.ptr 2 0 0 0))), (3, .v (.c (.k (I (gL l over))))), (5, .v (.c (.ptr 5 0 0 0))), (6, .v (.c (.k (I (k + 1 : Nat)))))]
        [(1, .var 29 [.inp 1000 A l.length c0, .k (I over)]), (2, .var 29 [.k (.slice none 0 0), .k (I 0)]), (5, .var 29 [.slc 45 0 1 ((k + 1) + 1) (capN ((k + 1) + 1) (c 10)), .k (I (lowO l over))]), (45, .arr 3 1 ((k + 1) + 1) (elN (elI ((lowL l over).take (k + 1))) (k + 1) [I v]) ((capN ((k + 1) + 1) (c 10) - ((k + 1) + 1)) * 1)), (1000, .ro 1 l.length (elI l))])
        (St.le_of rfl ⟨⟨_, rfl, Blk.le_refl _⟩, ⟨_, rfl, Blk.le_refl _⟩, ⟨_, rfl, Blk.le_refl _⟩, ⟨_, rfl, Blk.le_refl _⟩, ⟨_, rfl, Blk.le_refl _⟩, trivial⟩ ⟨rfl, rfl, rfl, rfl, rfl, trivial⟩) ?_
      refine G.rn 45 833 rfl trivial rfl rfl rfl ?_
      refine G.reg tfine rfl trivial ?_
      refine ⟨((k + 1) + 1, capN ((k + 1) + 1) (c 10)), ⟨by simp only; omega, capN_le _ _⟩, (by show l.length - ((k + 1) + 1) < l.length - (k + 1); omega), ?_⟩
      exact St.le_of rfl ⟨⟨_, rfl, Blk.le_refl _⟩, ⟨_, rfl, Blk.le_refl _⟩, ⟨_, rfl, Blk.le_refl _⟩, ⟨_, rfl, rfl, rfl, Nat.le_refl _, hsn, Nat.le_refl _⟩, ⟨_, rfl, Blk.le_refl _⟩, trivial⟩ ⟨rfl, rfl, rfl, rfl, by first | rfl | (simp [up, I, rnS, rnTV, rnAV, rnAC]; rw [IntWalk.i64_in _ (by omega)]), trivial⟩
    ·
      intro c c' j hj h
      have hj : j < 13 := hj
      match j, hj, h with
      | 0, _, h => first | rfl | (show some _ = some _; done)
      | 1, _, h => first | rfl | (show some _ = some _; done)
      | 2, _, h => first | rfl | (show some _ = some _; done)
      | 3, _, h => first | rfl | (show some _ = some _; done)
      | 4, _, h => first | rfl | (show some _ = some _; done)
      | 5, _, h => first | rfl | (show some _ = some _; done)
      | 6, _, h => first | rfl | (show some _ = some _; done)
      | 7, _, h => first | rfl | (show some _ = some _; done)
      | 8, _, h => first | rfl | (show some _ = some _; done)
      | 9, _, h => first | rfl | (show some _ = some _; done)
      | 10, _, h => first | rfl | (show some _ = some _; (try rw [h 10 (.inl rfl)]); (try rw [h 10 (.inr ⟨rfl, rfl⟩)]); done)
      | 11, _, h => first | rfl | (show some _ = some _; (try rw [h 10 (.inl rfl)]); (try rw [h 10 (.inr ⟨rfl, rfl⟩)]); done)
      | 12, _, h => first | rfl | (show some _ = some _; (try rw [h 10 (.inl rfl)]); (try rw [h 10 (.inr ⟨rfl, rfl⟩)]); done)
      | q + 13, hj, h => exact absurd hj (by omega)
end Go.Proofs.Ytafhnfcahhlanaa
/- Chapter 27: the reference's conditions of the numbers. -/
set_option linter.unusedVariables false
set_option linter.unusedSimpArgs false
set_option maxRecDepth 8000
set_option maxHeartbeats 2000000
namespace Go.Proofs.Ytafhnfcahhlanaa
open Go.Sx Go.RowKit
theorem apRe : ApT Try.prog 70 106 2 32 (.agg #[.slice none 0 0, I 0]) := ⟨by kernel_rfl, by kernel_rfl, rfl, by decide⟩
/-- A slice of numbers that is not older than a mark. -/
def newI (lo : Nat) (l : List Int) (v : Value) (w : World) : Prop := RdV w v l.length 1 (elI l) ∧ ∀ k, sb v k → lo ≤ k
theorem newI_steady {lo : Nat} {l : List Int} {v : Value} : Steady (sb v) (newI lo l v) := fun w1 w2 h1 h2 h => ⟨steady_rdv w1 w2 h1 h2 h.1, h.2⟩
theorem newI.ints {lo : Nat} {l : List Int} {v : Value} {w : World} (h : newI lo l v w) : IntsAt w v l := by
  obtain ⟨⟨A, c, e, h1, h2⟩, _⟩ := h
  exact ⟨A, c, e, h1, h2⟩
theorem Below.le' {n : Nat} {w w' : World} (h : Below n w w') : w.heap.size ≤ w'.heap.size := h.size
theorem snoc_sbV {SR : Nat → Prop} {us : Nat → Value} {v : Value} {i : Nat} (h : ∀ j, j < i → ∀ k, sb (us j) k → SR k) : ∀ j, j < i + 1 → ∀ k, sb ((fun j => if j = i then v else us j) j) k → SR k ∨ sb v k := fun j hj k hk => by
  by_cases e : j = i
  · simp only [if_pos e] at hk
    exact .inr hk
  · simp only [if_neg e] at hk
    exact .inl (h j (by omega) k hk)
theorem neg1 (x : Int) : W (W (0 - 1) * x) = W (0 - x) := by
  rw [show W (0 - 1) = -1 from IntWalk.i64_in (0 - 1) (by decide)]
  congr 1
  omega
theorem refMinusC {A : Option Addr} {c0 : Nat} {l : List Int} {w : World} (lo : Nat) (hlo : lo ≤ w.heap.size) (hA : RdRow w A l.length 1 (elI l)) (hn : l.length ≤ 100000) :
    Calls Try.prog 46 #[.slice A l.length c0] w fun e w' => ∃ u : Cho, e = .returned (slV l.length u) ∧ Below w.heap.size w w' ∧ newI lo (negW l) (slV l.length u) w' ∧ (∀ k, sb (slV l.length u) k → w.heap.size ≤ k ∧ k < w'.heap.size) ∧ Steady (sb (slV l.length u)) (newI lo (negW l) (slV l.length u)) := by
  refine (refMinus_any A c0 l w hA hn).mono ?_
  rintro e w' ⟨h, hb⟩
  obtain ⟨A1, c1, rfl, hc, hr⟩ := h.row
  have hs := rdNew_sb hr (c := c1)
  refine ⟨(.slice A1 l.length c1, fun _ => False), by rw [slV_eq hc], hb, ?_, by rw [slV_eq hc]; exact hs, newI_steady⟩
  rw [slV_eq hc]
  exact ⟨⟨A1, c1, by rw [negW_len], by rw [negW_len]; exact hr.rd, fun _ => by rw [negW_len]; exact hc⟩, fun k hk => Nat.le_trans hlo (hs k hk).1⟩
theorem refUnitC {n i : Nat} {w : World} (lo : Nat) (hlo : lo ≤ w.heap.size) (hi : i < n) (hn : n ≤ 1000000) :
    Calls Try.prog 86 #[I n, I i] w fun e w' => ∃ u : Cho, e = .returned (.agg #[slV n u, I 0]) ∧ Below w.heap.size w w' ∧ newI lo (unitL n i) (slV n u) w' ∧ (∀ k, sb (slV n u) k → w.heap.size ≤ k ∧ k < w'.heap.size) ∧ Steady (sb (slV n u)) (newI lo (unitL n i) (slV n u)) := by
  refine (refUnit_any n i w hi hn).mono ?_
  rintro e w' ⟨h, hb⟩
  obtain ⟨A1, c1, rfl, hc, hr⟩ := h.rat
  have hs := rdNew_sb hr (c := c1)
  refine ⟨(.slice A1 n c1, fun _ => False), by rw [slV_eq hc], hb, ?_, by rw [slV_eq hc]; exact hs, newI_steady⟩
  rw [slV_eq hc]
  exact ⟨⟨A1, c1, by rw [unitL_len], by rw [unitL_len]; exact hr.rd, fun _ => by rw [unitL_len]; exact hc⟩, fun k hk => Nat.le_trans hlo (hs k hk).1⟩
theorem refPrimal_any (p : Prob) (pv : Value) (vs0 : Nat → Value) (n : Nat) (w : World) (hp : ProbAt w pv p vs0) (hn : p.obj.length = n + 1) (h1 : n + 1 ≤ 1000) (h2 : p.rows.length ≤ 1000) (h3 : p.lim.length = p.rows.length) (h4 : ∀ r ∈ p.rows, r.length = n + 1) :
    Calls Try.prog 42 #[pv] w fun e w' => ConsA (primalM p 1) w w' e := by
  obtain ⟨ov, rv, lv, rfl, ⟨Ao, co, rfl, ho, _⟩, ⟨Ar, cr, rfl, hr, _, hri⟩, ⟨Al, cl, rfl, hl, _⟩⟩ := hp
  rw [hn] at ho ⊢
  obtain ⟨L, hL⟩ : ∃ L, L = primalM p 1 := ⟨_, rfl⟩
  rw [← hL]
  have hLl : L.length = p.rows.length + (n + 1) := by rw [hL, primalM_len, hn]; omega
  have hLlo : ∀ i, i < n + 1 → cAt L i = (unitL (n + 1) i, 0) := fun i hi => by rw [hL, primalM_lo p 1 i (by omega), hn]
  have hLhi : ∀ i, i < p.rows.length → cAt L (i + (n + 1)) = negRow p 1 i := fun i hi => by rw [hL, ← hn]; exact primalM_hi p 1 i hi
  refine enterIn _ Try.func42 rfl 46 Try.ntmps42 [.agg [.inp 1000 Ao (n + 1) co, .inp 1001 Ar p.rows.length cr, .inp 1002 Al p.lim.length cl]] [⟨1000, Ao, 1, n + 1, elI p.obj⟩, ⟨1001, Ar, 1, p.rows.length, fun i => [vs0 i]⟩, ⟨1002, Al, 1, p.lim.length, elI p.lim⟩] rfl rfl ⟨ho, hr, hl, trivial⟩
    ⟨⟨.inl ⟨rfl, rfl, rfl⟩, .inr ⟨nx rfl, .inl ⟨rfl, rfl, rfl⟩⟩, .inr ⟨nx rfl, .inr ⟨nx rfl, .inl ⟨rfl, rfl, rfl⟩⟩⟩, trivial⟩, trivial⟩ ?_
  refine G.seqR tfine rfl trivial ?_
  refine G.seqC tfine rfl trivial ?_
  refine GO.emptySliceS tfine rfl rfl rfl rfl rfl rfl rfl fun A0 hA0 => ?_
  refine GO.fin tfine rfl trivial ?_
  refine G.seq ?_
  refine G.seqR tfine rfl trivial ?_
  refine G.newNil 21 2 (fun j => [undef, I (cAt L j).2]) rfl ?_
  refine G.tellF 839 (fun w => ∀ j, j < 0 → IntsAt w undef (cAt L j).1) (fun w j hj => by omega) rfl ?_
  refine G.block (G.loop (fun z : Nat × Nat × (Nat → Value) × (Nat → Prop) => St.of [(1, .v (.c (.ptr 1 0 0 0))), (3, .v (.c (accVA A0 21 2 z.1 z.2.1))), (4, .v (.c (.k (I z.1))))]
      [(1, .var 25 [.inp 1000 Ao (n + 1) co, .inp 1001 Ar p.rows.length cr, .inp 1002 Al p.lim.length cl]), (21, accB 106 2 z.1 z.2.1 (fun j => [z.2.2.1 j, I (cAt L j).2])), (839, .say z.2.2.2 (fun w => ∀ j, j < z.1 → IntsAt w (z.2.2.1 j) (cAt L j).1)), (1000, .ro 1 (n + 1) (elI p.obj)), (1001, .ro 1 p.rows.length (fun i => [vs0 i])), (1002, .ro 1 p.lim.length (elI p.lim))])
    (fun z => z.1 ≤ n + 1 ∧ z.1 ≤ z.2.1 ∧ (∀ k, z.2.2.2 k → w.heap.size ≤ k) ∧ ∀ j, j < z.1 → ∀ k, sb (z.2.2.1 j) k → z.2.2.2 k) (fun z => n + 1 - z.1) (0, 0, (fun _ => undef), fun _ => False) ⟨Nat.zero_le _, Nat.le_refl _, fun k hk => hk.elim, fun j hj => absurd hj (Nat.not_lt_zero j)⟩ (St.le_of rfl ⟨⟨_, rfl, Blk.le_refl _⟩, ⟨_, rfl, Blk.le_refl _⟩, ⟨_, rfl, Blk.le_refl _⟩, ⟨_, rfl, Blk.le_refl _⟩, ⟨_, rfl, Blk.le_refl _⟩, ⟨_, rfl, Blk.le_refl _⟩, trivial⟩ ⟨rfl, rfl, rfl, trivial⟩) ?_)
  rintro ⟨i, cp, us, SR⟩ ⟨hi, hcp, hSR, hU⟩
  simp only at hi hcp hSR hU
  refine G.seq ?_
  refine G.seqR tfine rfl trivial ?_
  refine G.cond (b := decide ((i : Int) < ((n + 1 : Nat) : Int))) rfl (fun h5 => ?_) (fun h5 => ?_)
  · have h5 := of_decide_eq_true h5
    have hlt : i < n + 1 := by omega
    refine G.skip ?_
    refine G.seq ?_
    refine G.block ?_
    refine G.region_lit ?_
    refine GO.moveAny tfine rfl (.inl rfl) rfl rfl rfl ?_
    refine GO.more tfine rfl trivial ?_
    refine GO.callSay 19 (fun u : Cho => .agg #[slV (n + 1) u, I 0]) (fun u => sb (slV (n + 1) u)) (fun u => newI w.heap.size (unitL (n + 1) i) (slV (n + 1) u)) rfl rfl rfl rfl rfl (fun args w => Try.call86 args w) (fun ρ w1 hs hok => refUnitC w.heap.size hs.fr.toBelow.size hlt (by omega)) fun u => ?_
    obtain ⟨A1, c1, hv⟩ : ∃ A1 c1, slV (n + 1) u = .slice A1 (n + 1) c1 := ⟨_, _, rfl⟩
    rw [hv]
    refine GO.more tfine rfl trivial ?_
    refine GO.appendAccAB (n := i) (c := cp) (el := fun j => [us j, I (cAt L j).2]) [.slice A1 (n + 1) c1, I 0] [(1, .v (.c (.ptr 1 0 0 0))), (4, .v (.c (.k (I i))))]
        [(1, .var 25 [.inp 1000 Ao (n + 1) co, .inp 1001 Ar p.rows.length cr, .inp 1002 Al p.lim.length cl]), (839, .say SR (fun w => ∀ j, j < i → IntsAt w (us j) (cAt L j).1)), (19, .say (sb (.slice A1 (n + 1) c1)) (newI w.heap.size (unitL (n + 1) i) (.slice A1 (n + 1) c1))), (1000, .ro 1 (n + 1) (elI p.obj)), (1001, .ro 1 p.rows.length (fun i => [vs0 i])), (1002, .ro 1 p.lim.length (elI p.lim))] apRe rfl rfl rfl rfl rfl rfl rfl rfl rfl rfl (fun x hx => by simp at hx; rcases hx with rfl | rfl <;> rfl)
      (St.le_of rfl ⟨⟨_, rfl, Blk.le_refl _⟩, ⟨_, rfl, Blk.le_refl _⟩, ⟨_, rfl, Blk.le_refl _⟩, ⟨_, rfl, Blk.le_refl _⟩, ⟨_, rfl, Blk.le_refl _⟩, ⟨_, rfl, Blk.le_refl _⟩, trivial⟩ ⟨rfl, rfl, trivial⟩) (subM.fr ⟨rfl, nx rfl, rfl, nx rfl, rfl, nx rfl, rfl, nx rfl, rfl, nx rfl, rfl, nx rfl, trivial⟩) (fun k hk => rfl) (by unfold maxLen; omega) (by omega) fun c' hc' => ?_
    refine GO.fin tfine rfl trivial ?_
    refine G.fact 19 (φ := ∀ k, sb (.slice A1 (n + 1) c1) k → w.heap.size ≤ k) rfl (fun w h => h.2) fun hnew => ?_
    refine G.bothS 839 839 19 (fun k => SR k ∨ sb (.slice A1 (n + 1) c1) k) (fun w => ∀ j, j < i + 1 → IntsAt w ((fun j => if j = i then .slice A1 (n + 1) c1 else us j) j) (cAt L j).1) rfl rfl (fun k hk => hk) (fun s1 s2 => steady_snoc s1 (fun k hk => .inl hk) (fun k hk => .inr hk)) (fun w ha hb => snoc_ints ha (by rw [hLlo i hlt]; exact hb.ints)) (fun b hb => ⟨_, _, (Option.some.inj hb).symm⟩) ?_
    refine G.reg tfine rfl trivial ?_
    rw [IntWalk.i64_in ((i : Int) + 1) (by omega)]
    refine ⟨(i + 1, c', (fun j => if j = i then .slice A1 (n + 1) c1 else us j), fun k => SR k ∨ sb (.slice A1 (n + 1) c1) k), ⟨by simp only; omega, hc', fun k hk => hk.elim (hSR k) (hnew k), snoc_sbV hU⟩, (by show n + 1 - (i + 1) < n + 1 - i; omega), ?_⟩
    exact St.le_of rfl ⟨⟨_, rfl, Blk.le_refl _⟩, ⟨_, rfl, rfl, rfl, Nat.le_refl _, snoc_el (by rw [hLlo i hlt]), Nat.le_refl _⟩, ⟨_, rfl, Blk.le_refl _⟩, ⟨_, rfl, Blk.le_refl _⟩, ⟨_, rfl, Blk.le_refl _⟩, ⟨_, rfl, Blk.le_refl _⟩, trivial⟩ ⟨rfl, rfl, by simp [up, I], trivial⟩
  have h5 := of_decide_eq_false h5
  have : i = n + 1 := by omega
  subst this
  refine G.exit ?_
  clear h5 hi
  refine G.weaken (st' := St.of [(1, .v (.c (.ptr 1 0 0 0))), (3, .v (.c (.slc 21 0 2 (n + 1) cp)))]
      [(1, .var 25 [.inp 1000 Ao (n + 1) co, .inp 1001 Ar p.rows.length cr, .inp 1002 Al p.lim.length cl]), (21, .arr 106 2 (n + 1) (fun j => [us j, I (cAt L j).2]) ((cp - (n + 1)) * 2)), (839, .say SR (fun w => ∀ j, j < n + 1 → IntsAt w (us j) (cAt L j).1)), (1000, .ro 1 (n + 1) (elI p.obj)), (1001, .ro 1 p.rows.length (fun i => [vs0 i])), (1002, .ro 1 p.lim.length (elI p.lim))])
    (St.le_of rfl ⟨⟨_, rfl, Blk.le_refl _⟩, ⟨_, rfl, Blk.le_refl _⟩, ⟨_, rfl, Blk.le_refl _⟩, ⟨_, rfl, Blk.le_refl _⟩, ⟨_, rfl, Blk.le_refl _⟩, ⟨_, rfl, Blk.le_refl _⟩, trivial⟩ ⟨rfl, rfl, trivial⟩) ?_
  refine G.rn 21 63 rfl trivial rfl rfl rfl ?_
  refine G.seq ?_
  refine G.seqR tfine rfl trivial ?_
  refine G.block (G.loop (fun z : Nat × Nat × (Nat → Value) × (Nat → Prop) => St.of [(1, .v (.c (.ptr 1 0 0 0))), (3, .v (.c (.slc 63 0 2 (z.1 + (n + 1)) z.2.1))), (5, .v (.c (.k (I z.1))))]
      [(1, .var 25 [.inp 1000 Ao (n + 1) co, .inp 1001 Ar p.rows.length cr, .inp 1002 Al p.lim.length cl]), (63, .arr 106 2 (z.1 + (n + 1)) (fun j => [z.2.2.1 j, I (cAt L j).2]) ((z.2.1 - (z.1 + (n + 1))) * 2)), (839, .say z.2.2.2 (fun w => ∀ j, j < z.1 + (n + 1) → IntsAt w (z.2.2.1 j) (cAt L j).1)), (1000, .ro 1 (n + 1) (elI p.obj)), (1001, .ro 1 p.rows.length (fun i => [vs0 i])), (1002, .ro 1 p.lim.length (elI p.lim))])
    (fun z => z.1 ≤ p.rows.length ∧ z.1 + (n + 1) ≤ z.2.1 ∧ (∀ k, z.2.2.2 k → w.heap.size ≤ k) ∧ ∀ j, j < z.1 + (n + 1) → ∀ k, sb (z.2.2.1 j) k → z.2.2.2 k) (fun z => p.rows.length - z.1) (0, cp, us, SR) ⟨Nat.zero_le _, by simp only; omega, hSR, by simp only [Nat.zero_add]; exact hU⟩ ?_ ?_)
  · rw [show (0 : Nat) + (n + 1) = n + 1 from Nat.zero_add _]
    exact St.le_of rfl ⟨⟨_, rfl, Blk.le_refl _⟩, ⟨_, rfl, Blk.le_refl _⟩, ⟨_, rfl, Blk.le_refl _⟩, ⟨_, rfl, Blk.le_refl _⟩, ⟨_, rfl, Blk.le_refl _⟩, ⟨_, rfl, Blk.le_refl _⟩, trivial⟩ ⟨rfl, rfl, rfl, trivial⟩
  clear hSR hcp hU
  rintro ⟨i, cp, us, SR⟩ ⟨hi, hcp, hSR, hU⟩
  simp only at hi hcp hSR hU
  refine G.seq ?_
  refine G.seqR tfine rfl trivial ?_
  refine G.cond (b := decide ((i : Int) < (p.rows.length : Int))) rfl (fun h5 => ?_) (fun h5 => ?_)
  · have h5 := of_decide_eq_true h5
    have hlt : i < p.rows.length := by omega
    refine G.skip ?_
    refine G.seq ?_
    refine G.block ?_
    obtain ⟨row, hrow⟩ : ∃ row, row = p.rows.getD i [] := ⟨_, rfl⟩
    have hrl : row.length = n + 1 := by rw [hrow]; exact h4 _ (by rw [List.getD_eq_getElem?_getD, List.getElem?_eq_getElem hlt]; exact List.getElem_mem hlt)
    obtain ⟨Aq, cq, hvq, hAq, _⟩ := hri i hlt
    rw [← hrow] at hvq hAq
    rw [hrl] at hvq
    have hci : cAt L (i + (n + 1)) = (negW row, W (0 - p.lim.getD i 0)) := by rw [hLhi i hlt, negRow, neg1, hrow]
    apply G.drawC (ch := fun j => match j with | 6 => some (sayF 35 (fun u => slV (n + 1) u) (fun u => sb (slV (n + 1) u)) (fun u => newI w.heap.size (negW row) (slV (n + 1) u))) | 15 => some (accZ 63 44 39 (i + (n + 1)) 2 106 (fun j => [us j, I (cAt L j).2]) (n + 1) (newI w.heap.size (negW row)) [I (W (0 - p.lim.getD i 0))]) | _ => none) (cls := [0, 0, 2, 0, 14, 30, 62, 0, 128, 0, 896, 1920, 3968, 8190, 16382, 32767, 65535]) (X := [(6, 35), (15, 44), (15, 63), (15, 39)]) hmix rfl rfl rfl
    · intro c
      refine GC.more tfine 0 rfl rfl rfl ⟨by omega, by omega, by omega, trivial⟩ ?_
      rw [Int.toNat_natCast]
      refine GC.choice 6 rfl _ rfl (StepsC.callSay 35 (fun u => slV (n + 1) u) (fun u => sb (slV (n + 1) u)) (fun u => newI w.heap.size (negW row) (slV (n + 1) u)) rfl rfl rfl rfl rfl (fun args w => Try.call46 args w) (fun m' hle ρ w1 hs hok => ?_)) rfl sayF_nm rfl ?_
      · show Calls Try.prog _ #[vs0 i] w1 _
        rw [hvq]
        have := refMinusC (c0 := cq) (l := row) w.heap.size hs.fr.toBelow.size (hAq.below hs.fr.toBelow) (by omega)
        rw [hrl] at this
        exact this
      refine GC.more tfine 7 rfl rfl rfl ⟨by omega, by omega, by omega, trivial⟩ ?_
      rw [Int.toNat_natCast]
      refine GC.choice 15 rfl _ rfl (StepsC.appendAccZ (n := i + (n + 1)) (c := cp) 35 39 (c 6) [I (W (0 - p.lim.getD i 0))] apRe rfl rfl rfl rfl rfl rfl rfl rfl rfl rfl rfl rfl rfl (fun u hu => by simp at hu; subst hu; rfl) (fun k hk => rfl) (by unfold maxLen; omega) (by omega) rfl rfl rfl rfl rfl rfl (fun u => newI_steady)) rfl accZ_nm rfl ?_
      refine GC.more tfine 16 rfl rfl rfl trivial ?_
      refine GC.nil ?_
      obtain ⟨A1, c1, hv⟩ : ∃ A1 c1, slV (n + 1) (pr2 (c 15)) = .slice A1 (n + 1) c1 := ⟨_, _, rfl⟩
      obtain ⟨cp2, hcp2⟩ : ∃ cp2, cp2 = capN (i + (n + 1) + 1) (pr1 (c 15)) := ⟨_, rfl⟩
      have hcl : i + (n + 1) + 1 ≤ cp2 := by rw [hcp2]; exact capN_le _ _
      refine G.weaken (st' := St.of [(1, .v (.c (.ptr 1 0 0 0))), (3, .v (.c (.slc 44 0 2 (i + (n + 1) + 1) cp2))), (5, .v (.c (.k (I i))))]
          [(1, .var 25 [.inp 1000 Ao (n + 1) co, .inp 1001 Ar p.rows.length cr, .inp 1002 Al p.lim.length cl]), (44, .arr 106 2 (i + (n + 1) + 1) (elN (fun j => [us j, I (cAt L j).2]) (i + (n + 1)) [.slice A1 (n + 1) c1, I (W (0 - p.lim.getD i 0))]) ((cp2 - (i + (n + 1) + 1)) * 2)), (839, .say SR (fun w => ∀ j, j < i + (n + 1) → IntsAt w (us j) (cAt L j).1)), (39, .say (sb (.slice A1 (n + 1) c1)) (newI w.heap.size (negW row) (.slice A1 (n + 1) c1))), (1000, .ro 1 (n + 1) (elI p.obj)), (1001, .ro 1 p.rows.length (fun i => [vs0 i])), (1002, .ro 1 p.lim.length (elI p.lim))])
        (St.le_of rfl ⟨⟨_, rfl, Blk.le_refl _⟩, ⟨_, rfl, by rw [← hv, hcp2]; exact Blk.le_refl _⟩, ⟨_, rfl, Blk.le_refl _⟩, ⟨_, rfl, by rw [← hv]; exact Blk.le_refl _⟩, ⟨_, rfl, Blk.le_refl _⟩, ⟨_, rfl, Blk.le_refl _⟩, ⟨_, rfl, Blk.le_refl _⟩, trivial⟩ ⟨rfl, by rw [hcp2]; rfl, rfl, trivial⟩) ?_
      clear hv hcp2
      refine G.fact 39 (φ := ∀ k, sb (.slice A1 (n + 1) c1) k → w.heap.size ≤ k) rfl (fun w h => h.2) fun hnew => ?_
      refine G.bothS 839 839 39 (fun k => SR k ∨ sb (.slice A1 (n + 1) c1) k) (fun w => ∀ j, j < i + (n + 1) + 1 → IntsAt w ((fun j => if j = i + (n + 1) then .slice A1 (n + 1) c1 else us j) j) (cAt L j).1) rfl rfl (fun k hk => hk) (fun s1 s2 => steady_snoc s1 (fun k hk => .inl hk) (fun k hk => .inr hk)) (fun w ha hb => snoc_ints ha (by rw [hci]; exact hb.ints)) (fun b hb => ⟨_, _, (Option.some.inj hb).symm⟩) ?_
      refine G.rn 44 63 rfl trivial rfl rfl rfl ?_
      refine G.reg tfine rfl trivial ?_
      rw [show IntKind.i64.wrap ((i : Int) + 1) = (i : Int) + 1 from IntWalk.i64_in ((i : Int) + 1) (by omega)]
      refine ⟨(i + 1, cp2, (fun j => if j = i + (n + 1) then .slice A1 (n + 1) c1 else us j), fun k => SR k ∨ sb (.slice A1 (n + 1) c1) k), ⟨by simp only; omega, by simp only; omega, fun k hk => hk.elim (hSR k) (hnew k), by simp only [show i + 1 + (n + 1) = i + (n + 1) + 1 by omega]; exact snoc_sbV hU⟩, (by show p.rows.length - (i + 1) < p.rows.length - i; omega), ?_⟩
      simp only [show i + 1 + (n + 1) = i + (n + 1) + 1 by omega]
      exact St.le_of rfl ⟨⟨_, rfl, Blk.le_refl _⟩, ⟨_, rfl, rfl, rfl, Nat.le_refl _, snoc_el (by rw [hci]), Nat.le_refl _⟩, ⟨_, rfl, Blk.le_refl _⟩, ⟨_, rfl, Blk.le_refl _⟩, ⟨_, rfl, Blk.le_refl _⟩, ⟨_, rfl, Blk.le_refl _⟩, trivial⟩ ⟨rfl, rfl, by simp [up, I], trivial⟩
    ·
      intro c c' j hj h
      have hj : j < 17 := hj
      match j, hj, h with
      | 0, _, h => first | rfl | (show some _ = some _; done)
      | 1, _, h => first | rfl | (show some _ = some _; done)
      | 2, _, h => first | rfl | (show some _ = some _; done)
      | 3, _, h => first | rfl | (show some _ = some _; done)
      | 4, _, h => first | rfl | (show some _ = some _; done)
      | 5, _, h => first | rfl | (show some _ = some _; done)
      | 6, _, h => first | rfl | (show some _ = some _; (try rw [h 6 (.inl rfl)]); (try rw [h 6 (.inr ⟨rfl, rfl⟩)]); done)
      | 7, _, h => first | rfl | (show some _ = some _; (try rw [h 6 (.inl rfl)]); (try rw [h 6 (.inr ⟨rfl, rfl⟩)]); done)
      | 8, _, h => first | rfl | (show some _ = some _; (try rw [h 6 (.inl rfl)]); (try rw [h 6 (.inr ⟨rfl, rfl⟩)]); done)
      | 9, _, h => first | rfl | (show some _ = some _; (try rw [h 6 (.inl rfl)]); (try rw [h 6 (.inr ⟨rfl, rfl⟩)]); done)
      | 10, _, h => first | rfl | (show some _ = some _; (try rw [h 6 (.inl rfl)]); (try rw [h 6 (.inr ⟨rfl, rfl⟩)]); done)
      | 11, _, h => first | rfl | (show some _ = some _; (try rw [h 6 (.inl rfl)]); (try rw [h 6 (.inr ⟨rfl, rfl⟩)]); done)
      | 12, _, h => first | rfl | (show some _ = some _; (try rw [h 6 (.inl rfl)]); (try rw [h 6 (.inr ⟨rfl, rfl⟩)]); done)
      | 13, _, h => first | rfl | (show some _ = some _; (try rw [h 6 (.inl rfl)]); (try rw [h 6 (.inr ⟨rfl, rfl⟩)]); done)
      | 14, _, h => first | rfl | (show some _ = some _; (try rw [h 6 (.inl rfl)]); (try rw [h 6 (.inr ⟨rfl, rfl⟩)]); done)
      | 15, _, h => first | rfl | (show some _ = some _; (try rw [h 6 (.inl rfl)]); (try rw [h 6 (.inr ⟨rfl, rfl⟩)]); (try rw [h 15 (.inl rfl)]); (try rw [h 15 (.inr ⟨rfl, rfl⟩)]); done)
      | 16, _, h => first | rfl | (show some _ = some _; (try rw [h 6 (.inl rfl)]); (try rw [h 6 (.inr ⟨rfl, rfl⟩)]); (try rw [h 15 (.inl rfl)]); (try rw [h 15 (.inr ⟨rfl, rfl⟩)]); done)
      | q + 17, hj, h => exact absurd hj (by omega)
  have h5 := of_decide_eq_false h5
  have : i = p.rows.length := by omega
  subst this
  refine G.exit ?_
  rw [← hLl] at hcp hU ⊢
  refine G.freezeArr 63 3 rfl rfl (Nat.le_refl _) fun g hg => ?_
  have hg : w.heap.size ≤ g := hg.elim id (fun h => by cases h)
  refine G.seqR tfine rfl trivial ?_
  exact G.ret (ret_cons (X := 63) (Y := 839) rfl hg hcp hSR hU rfl rfl)
end Go.Proofs.Ytafhnfcahhlanaa
/- Chapter 27: the reference's Keeps, Value, Lowest. -/
set_option linter.unusedVariables false
set_option linter.unusedSimpArgs false
set_option maxRecDepth 8000
set_option maxHeartbeats 2000000
namespace Go.Proofs.Ytafhnfcahhlanaa
open Go.Sx Go.RowKit
theorem refKeeps_any (lv : Value) (L : List Cond) (vs : Nat → Value) (B : Option Addr) (d : Nat) (nums : List Int) (over : Int) (w : World) (hL : ConsAt w lv L vs) (hB : RdRow w B nums.length 1 (elI nums))
    (hl : ∀ i, i < L.length → (cAt L i).1.length ≤ nums.length) (hn : nums.length ≤ 100000) (hn2 : L.length ≤ 100000) :
    Calls Try.prog 60 #[lv, .agg #[.slice B nums.length d, I over]] w fun e w' => e = .returned (.bool (keepsM L nums over)) ∧ Below w.heap.size w w' := by
  obtain ⟨A, c, rfl, hA, hc, hi⟩ := hL
  obtain ⟨q, hq⟩ : ∃ q : Nat → Bool, q = fun i => failC nums over (cAt L i) := ⟨_, rfl⟩
  refine enterPlain tfine Try.func60 rfl 29 Try.ntmps60 [.c (.inp 1000 A L.length c), .agg [.inp 1001 B nums.length d, .k (I over)]] [⟨1000, A, 2, L.length, elC L vs⟩, ⟨1001, B, 1, nums.length, elI nums⟩] rfl rfl ⟨hA, hB, trivial⟩ ⟨.inl ⟨rfl, rfl, rfl⟩, ⟨.inr ⟨nx rfl, .inl ⟨rfl, rfl, rfl⟩⟩, trivial, trivial⟩, trivial⟩ ?_
  refine G.seqR tfine rfl trivial ?_
  refine G.seq ?_
  refine G.seqR tfine rfl trivial ?_
  refine G.block (G.loop (fun k : Nat => St.of [(0, .v (.c (.inp 1000 A L.length c))), (3, .v (.c (.ptr 3 0 0 0))), (5, .v (.c (.k (I k))))] [(3, .var 29 [.inp 1001 B nums.length d, .k (I over)]), (1000, .ro 2 L.length (elC L vs)), (1001, .ro 1 nums.length (elI nums))])
    (fun k => k ≤ L.length ∧ firstI q 0 L.length = firstI q k (L.length - k)) (fun k => L.length - k) 0 ⟨Nat.zero_le _, rfl⟩ (St.le_of rfl ⟨⟨_, rfl, Blk.le_refl _⟩, ⟨_, rfl, Blk.le_refl _⟩, ⟨_, rfl, Blk.le_refl _⟩, trivial⟩ ⟨rfl, rfl, rfl, trivial⟩) ?_)
  rintro k ⟨hk, hfi⟩
  refine G.seq ?_
  refine G.seqR tfine rfl trivial ?_
  refine G.cond (b := decide ((k : Int) < (L.length : Int))) rfl (fun h => ?_) (fun h => ?_)
  · have h := of_decide_eq_true h
    have hlt : k < L.length := by omega
    rw [firstI_cons _ k _ (by omega)] at hfi
    obtain ⟨A1, c1, hv, hA1, _⟩ := hi k hlt
    refine G.skip ?_
    refine G.seq ?_
    refine G.block ?_
    refine G.seqDraw hmix [0, 0, 3, 7, 15, 0, 32, 127, 0, 0, 768, 1792, 3840, 0, 8192, 32512, 65535] [] rfl rfl rfl ?_
    refine GD.more tfine 0 rfl rfl ⟨by omega, by omega, by omega, trivial⟩ ?_
    rw [Int.toNat_natCast]
    refine GD.call (v := I (dotL (cAt L k).1 nums)) 7 rfl rfl rfl rfl rfl (fun args w => Try.call61 args w) (fun m' hle ρ w1 hs hok => ?_) ?_
    · show Calls Try.prog _ #[vs k, _] w1 _
      rw [hv]
      exact refDot_any A1 B c1 d (cAt L k).1 nums w1 (hA1.below hs.fr.toBelow) (hB.below hs.fr.toBelow) (hl k hlt) (by omega)
    refine GD.fin tfine 8 rfl rfl ⟨by omega, by omega, by omega, trivial⟩ ?_
    rw [Int.toNat_natCast]
    refine G.cond (b := q k) (by rw [hq]; rfl) (fun h2 => ?_) (fun h2 => ?_)
    · refine G.seqR tfine rfl trivial ?_
      refine G.ret (endK.ret rfl ?_)
      rw [keepsM, ← hq, hfi, if_pos h2]
      simp
    · refine G.skip ?_
      refine G.reg tfine rfl trivial ?_
      rw [IntWalk.i64_in ((k : Int) + 1) (by omega)]
      rw [if_neg (by simpa using h2)] at hfi
      exact ⟨k + 1, ⟨by omega, by rw [hfi]; rfl⟩, (by show L.length - (k + 1) < L.length - k; omega), St.le_of rfl ⟨⟨_, rfl, Blk.le_refl _⟩, ⟨_, rfl, Blk.le_refl _⟩, ⟨_, rfl, Blk.le_refl _⟩, trivial⟩ ⟨rfl, rfl, by simp [up, I], trivial⟩⟩
  have h := of_decide_eq_false h
  have : k = L.length := by omega
  subst this
  refine G.exit ?_
  refine G.seqR tfine rfl trivial ?_
  refine G.ret (endK.ret rfl ?_)
  rw [keepsM, ← hq, hfi]
  simp [firstI]
end Go.Proofs.Ytafhnfcahhlanaa
/- Chapter 27: the reference's Value, Keeps, Lowest. -/
set_option linter.unusedVariables false
set_option linter.unusedSimpArgs false
set_option maxRecDepth 8000
set_option maxHeartbeats 2000000
namespace Go.Proofs.Ytafhnfcahhlanaa
open Go.Sx Go.RowKit
theorem anyI_no {q : Int → Bool} {l : List Int} (h : ¬ anyI q l = true) : ∀ k, k < l.length → q (l.getD k 0) = false := by
  intro i hi
  cases hq : q (l.getD i 0) with
  | false => rfl
  | true =>
    refine absurd ?_ h
    rw [anyI, firstI_any, List.any_eq_true]
    exact ⟨i, List.mem_range'_1.2 ⟨Nat.zero_le _, by omega⟩, hq⟩
theorem badB2_no {x : Int} (h : badB2 x = false) : -1000 ≤ x ∧ x ≤ 1000 := by
  rw [← badB2_eq, show W (0 - 1000) = -1000 from IntWalk.i64_in (0 - 1000) (by decide), Bool.or_eq_false_iff] at h
  have h1 := of_decide_eq_false h.1
  have h2 := of_decide_eq_false h.2
  omega
theorem inB_no {x : Int} (h : inB x = false) : -35184372088832 ≤ x ∧ x ≤ 35184372088832 := by
  unfold inB at h
  rw [Bool.or_eq_false_iff] at h
  have h1 := of_decide_eq_false h.1
  have h2 := of_decide_eq_false h.2
  omega
theorem check_obj {p : Prob} (h : checkM p = 0) : (∀ k, k < p.obj.length → -1000 ≤ p.obj.getD k 0 ∧ p.obj.getD k 0 ≤ 1000) ∧ (∀ k, k < p.lim.length → -1000 ≤ p.lim.getD k 0 ∧ p.lim.getD k 0 ≤ 1000) := by
  unfold checkM at h
  split at h
  · cases h
  split at h
  · cases h
  split at h
  · cases h
  split at h
  · cases h
  rename_i g4
  exact ⟨fun k hk => badB2_no (anyI_no (fun h' => g4 (.inl h')) k hk), fun k hk => badB2_no (anyI_no (fun h' => g4 (.inr h')) k hk)⟩
theorem inM_nums {l : List Int} {o : Int} (h : inM l o = true) : ∀ k, k < l.length → -35184372088832 ≤ l.getD k 0 ∧ l.getD k 0 ≤ 35184372088832 := by
  unfold inM at h
  rw [Bool.and_eq_true] at h
  have h2 : anyB l = false := by simpa using h.2
  exact fun k hk => inB_no (anyI_no (q := inB) (by rw [← anyB_eq, h2]; decide) k hk)
theorem mul_bound {x y A B : Int} (h1 : -A ≤ x) (h2 : x ≤ A) (h3 : -B ≤ y) (h4 : y ≤ B) : -(A * B) ≤ x * y ∧ x * y ≤ A * B := by
  have a1 : 0 ≤ (A - x) * (B - y) := Int.mul_nonneg (by omega) (by omega)
  have a2 : 0 ≤ (A + x) * (B + y) := Int.mul_nonneg (by omega) (by omega)
  have a3 : 0 ≤ (A - x) * (B + y) := Int.mul_nonneg (by omega) (by omega)
  have a4 : 0 ≤ (A + x) * (B - y) := Int.mul_nonneg (by omega) (by omega)
  simp only [Int.sub_mul, Int.add_mul, Int.mul_sub, Int.mul_add] at a1 a2 a3 a4
  omega
theorem dotN_bound {a b : Nat → Int} {A B : Int} (hA : A * B ≤ 100000000000000000) (h0 : 0 ≤ A * B) : ∀ n, n ≤ 8 → (∀ k, k < n → (-A ≤ a k ∧ a k ≤ A) ∧ -B ≤ b k ∧ b k ≤ B) → -(n * (A * B)) ≤ dotN a b n ∧ dotN a b n ≤ n * (A * B)
  | 0, _, _ => by simp [dotN]
  | n + 1, hn, h => by
    obtain ⟨h1, h2⟩ := dotN_bound hA h0 n (by omega) fun k hk => h k (by omega)
    obtain ⟨⟨a1, a2⟩, a3, a4⟩ := h n (by omega)
    obtain ⟨m1, m2⟩ := mul_bound a1 a2 a3 a4
    generalize A * B = M at *
    have e : (((n + 1 : Nat) : Int)) * M = n * M + M := by
      rw [show (((n + 1 : Nat) : Int)) = (n : Int) + 1 by omega, Int.add_mul, Int.one_mul]
    have e2 : (n : Int) * M ≤ 8 * M := Int.mul_le_mul_of_nonneg_right (by omega) h0
    rw [e]
    have w1 : W (a n * b n) = a n * b n := IntWalk.i64_in _ (by omega)
    have w2 : W (dotN a b n + a n * b n) = dotN a b n + a n * b n := IntWalk.i64_in _ (by omega)
    rw [dotN]
    first
      | (rw [w1, w2]; omega)
      | (rw [w2]; omega)
theorem dotL_in {p : Prob} {r : Rat} (hc : checkM p = 0) (hl : r.1.length = p.obj.length) (hi : inM r.1 r.2 = true) : -9223372036854775808 < dotL p.obj r.1 ∧ dotL p.obj r.1 ≤ 9223372036854775807 := by
  obtain ⟨o1, o2, _⟩ := check_ok hc
  have h := dotN_bound (a := fun k => p.obj.getD k 0) (b := fun k => r.1.getD k 0) (A := 1000) (B := 35184372088832) (by decide) (by decide) p.obj.length (by omega) fun k hk => ⟨(check_obj hc).1 k hk, inM_nums hi k (by omega)⟩
  rw [dotL]
  omega
theorem refValue_any (p : Prob) (pv rv : Value) (vs0 : Nat → Value) (r : Rat) (w : World) (hp : ProbAt w pv p vs0) (hr : RatAt w rv r) (h1 : p.obj.length ≤ 100000) (h2 : p.rows.length ≤ 100000) (h3 : p.lim.length ≤ 100000) (h4 : ∀ r ∈ p.rows, r.length ≤ 100000) (hrl : r.1.length ≤ 100000) :
    Calls Try.prog 27 #[pv, rv] w fun e w' => Ans w w' [ratRV (valR p r), .c (.p (I (readyM p r)))] e ∧ Below w.heap.size w w' := by
  have hp0 := hp
  obtain ⟨ov, rv2, lv, rfl, ⟨Ao, co, rfl, ho, hoc⟩, ⟨Ar, cr, rfl, hrr, hrc, hri⟩, ⟨Al, cl, rfl, hl, hlc⟩⟩ := hp
  obtain ⟨nv, rfl, ⟨Ax, cx, rfl, hAx, hcx⟩⟩ := hr
  refine enterAns tfine _ Try.func27 rfl 24 Try.ntmps27 [.agg [.inp 1000 Ao p.obj.length co, .inp 1001 Ar p.rows.length cr, .inp 1002 Al p.lim.length cl], .agg [.inp 1003 Ax r.1.length cx, .k (I r.2)]] [⟨1000, Ao, 1, p.obj.length, elI p.obj⟩, ⟨1001, Ar, 1, p.rows.length, fun i => [vs0 i]⟩, ⟨1002, Al, 1, p.lim.length, elI p.lim⟩, ⟨1003, Ax, 1, r.1.length, elI r.1⟩] rfl rfl ⟨ho, hrr, hl, hAx, trivial⟩
    ⟨⟨.inl ⟨rfl, rfl, rfl⟩, .inr ⟨nx rfl, .inl ⟨rfl, rfl, rfl⟩⟩, .inr ⟨nx rfl, .inr ⟨nx rfl, .inl ⟨rfl, rfl, rfl⟩⟩⟩, trivial⟩, ⟨.inr ⟨nx rfl, .inr ⟨nx rfl, .inr ⟨nx rfl, .inl ⟨rfl, rfl, rfl⟩⟩⟩⟩, trivial, trivial⟩, trivial⟩ ?_
  refine G.seqR tfine rfl trivial ?_
  refine G.seqC tfine rfl trivial ?_
  refine GO.callPlain (v := I (readyM p r)) rfl rfl rfl rfl (fun args w => Try.call68 args w) (fun ρ w1 hs hok => asks_any p _ _ vs0 r w1 (hp0.below hs.fr.toBelow) ⟨_, rfl, ⟨Ax, cx, rfl, hAx.below hs.fr.toBelow, hcx⟩⟩ h1 h2 h3 h4 hrl) ?_
  refine GO.fin tfine rfl trivial ?_
  refine G.seq ?_
  refine G.seqR tfine rfl trivial ?_
  refine G.cond (b := readyM p r != 0) rfl (fun h => ?_) (fun h => ?_)
  · have h : readyM p r ≠ 0 := by simpa using h
    rw [valR, if_pos h]
    refine G.seqR tfine rfl trivial ?_
    exact G.ret (endAns.ret ⟨⟨_, rfl, ⟨⟨rfl, rfl, fun a h => by cases h⟩, rfl, trivial⟩⟩, ⟨_, rfl, rfl⟩, trivial⟩)
  have h : ¬ readyM p r ≠ 0 := by simpa using h
  obtain ⟨hc0, hln, hin⟩ := ready_ok (by omega : readyM p r = 0)
  obtain ⟨o1, o2⟩ := inM_over hin
  rw [valR, if_neg h, show readyM p r = 0 by omega]
  refine G.skip ?_
  refine G.seqDraw hmix [0, 1, 0, 4, 15, 31, 0, 64, 255, 511, 1023, 2047] [(9, 813), (9, 863), (10, 4)] rfl rfl rfl ?_
  refine GD.more tfine 0 rfl rfl trivial ?_
  refine GD.call (v := I (dotL p.obj r.1)) 4 rfl rfl rfl rfl rfl (fun args w => Try.call61 args w) (fun m' hle ρ w1 hs hok => refDot_any Ao Ax co cx p.obj r.1 w1 (ho.below hs.fr.toBelow) (hAx.below hs.fr.toBelow) (by omega) (by omega)) ?_
  refine GD.more tfine 5 rfl rfl trivial ?_
  refine GD.callAns [.agg [.r 1 1 (elI (valueL p.obj r)), .p (I (valueO p.obj r))]] [813] 9 rfl rfl rfl rfl rfl ⟨rfl, rfl, rfl, trivial⟩ rfl (fun args w => Try.call69 args w) (fun m' hle ρ w1 hs hok => ?_) ?_
  · have k9 := hs.ok 19 _ (hle.at rfl)
    have h9 : w1.heap[(ρ 19).1]? = some (.cells #[I (dotL p.obj r.1)] 3 (0, 0)) := by simpa [AC.conc] using k9.2.2.1
    have hrd : RdRow w1 (some ⟨(ρ 19).1, (ρ 19).2 + 0 * 1, none⟩) 1 1 (elI [dotL p.obj r.1]) := fun _ => by
      refine ⟨(ρ 19).1, 0, by rw [k9.1], lt_of_heap h9, fun i hi => ⟨rfl, fun j hj => ?_⟩⟩
      have e1 : i = 0 := by omega
      have e2 : j = 0 := by omega
      subst e1; subst e2
      rw [cell_of_heap h9]; rfl
    exact refShorten_any _ 1 [dotL p.obj r.1] r.2 w1 hrd (by simp) o1 (by omega) (fun k hk => by
      have : k = 0 := by simpa using hk
      subst this
      exact dotL_in hc0 hln hin)
  refine GD.fin tfine 10 rfl rfl trivial ?_
  exact G.ret (endAns.ret ⟨⟨_, rfl, ⟨⟨rfl, Nat.le_refl _, 1, _, rfl, Nat.le_refl _, fun i hi => rfl⟩, rfl, trivial⟩⟩, ⟨_, rfl, rfl⟩, trivial⟩)
theorem refPrimal_cho (p : Prob) (pv : Value) (vs0 : Nat → Value) (w : World) (hp : ProbAt w pv p vs0) (h0 : 0 < p.obj.length) (h1 : p.obj.length ≤ 1000) (h2 : p.rows.length ≤ 1000) (h3 : p.lim.length = p.rows.length) (h4 : ∀ r ∈ p.rows, r.length = p.obj.length) :
    Calls Try.prog 42 #[pv] w fun e w' => ∃ u : Cho, e = .returned (slV (primalM p 1).length u) ∧ Below w.heap.size w w' ∧ conR (primalM p 1) u w' ∧ (∀ k, u.2 k → w.heap.size ≤ k ∧ k < w'.heap.size) ∧ Steady u.2 (conR (primalM p 1) u) := by
  obtain ⟨n, hn⟩ : ∃ n, p.obj.length = n + 1 := ⟨p.obj.length - 1, by omega⟩
  exact (refPrimal_any p pv vs0 n w hp hn (by omega) h2 h3 (fun r hr => by rw [h4 r hr, hn])).mono fun e w' h => h.cho
theorem refKeepsTop_any (p : Prob) (pv rv : Value) (vs0 : Nat → Value) (r : Rat) (w : World) (hp : ProbAt w pv p vs0) (hr : RatAt w rv r) (h1 : p.obj.length ≤ 100000) (h2 : p.rows.length ≤ 100000) (h3 : p.lim.length ≤ 100000) (h4 : ∀ r ∈ p.rows, r.length ≤ 100000) (hrl : r.1.length ≤ 100000) :
    Calls Try.prog 28 #[pv, rv] w fun e w' => e = .returned (.tuple #[.bool (kpR p r), I (readyM p r)]) ∧ Below w.heap.size w w' := by
  have hp0 := hp
  obtain ⟨ov, rv2, lv, rfl, ⟨Ao, co, rfl, ho, hoc⟩, ⟨Ar, cr, rfl, hrr, hrc, hri⟩, ⟨Al, cl, rfl, hl, hlc⟩⟩ := hp
  obtain ⟨nv, rfl, ⟨Ax, cx, rfl, hAx, hcx⟩⟩ := hr
  refine enterSay [] [.agg [.k (.slice Ao p.obj.length co), .k (.slice Ar p.rows.length cr), .k (.slice Al p.lim.length cl)], .agg [.k (.slice Ax r.1.length cx), .k (I r.2)]] [] Try.func28 rfl 17 Try.ntmps28 rfl rfl ⟨⟨trivial, trivial, trivial, trivial⟩, ⟨trivial, trivial, trivial⟩, trivial⟩ trivial ?_
  refine G.seqR tfine rfl trivial ?_
  refine G.seqC tfine rfl trivial ?_
  refine GO.callPlain (v := I (readyM p r)) rfl rfl rfl rfl (fun args w => Try.call68 args w) (fun ρ w1 hs hok => asks_any p _ _ vs0 r w1 (hp0.below hs.fr.toBelow) ⟨_, rfl, ⟨Ax, cx, rfl, hAx.below hs.fr.toBelow, hcx⟩⟩ h1 h2 h3 h4 hrl) ?_
  refine GO.fin tfine rfl trivial ?_
  refine G.seq ?_
  refine G.seqR tfine rfl trivial ?_
  refine G.cond (b := readyM p r != 0) rfl (fun h => ?_) (fun h => ?_)
  · have h : readyM p r ≠ 0 := by simpa using h
    refine G.seqR tfine rfl trivial ?_
    exact G.ret (retK.plain tfine rfl (by rw [kpR, if_pos h]))
  have h : ¬ readyM p r ≠ 0 := by simpa using h
  obtain ⟨hc0, hln, hin⟩ := ready_ok (by omega : readyM p r = 0)
  obtain ⟨g1, g2, g3, g4, g5⟩ := check_ok hc0
  refine G.skip ?_
  refine G.seq ?_
  apply G.drawC (ch := fun j => match j with | 1 => some (sayF 14 (fun u => slV (primalM p 1).length u) (fun u => u.2) (fun u => conR (primalM p 1) u)) | _ => none) (cls := [0, 1, 0, 7, 15, 31]) (X := [(1, 14)]) hmix rfl rfl rfl
  · intro c
    refine GC.more tfine 0 rfl rfl rfl trivial ?_
    refine GC.choice 1 rfl _ rfl (StepsC.callSay 14 (fun u => slV (primalM p 1).length u) (fun u => u.2) (fun u => conR (primalM p 1) u) rfl rfl rfl rfl rfl (fun args w => Try.call42 args w) (fun m' hle ρ w1 hs hok => refPrimal_cho p _ vs0 w1 (hp0.below hs.fr.toBelow) g1 (by omega) (by omega) g4 g5)) rfl sayF_nm rfl ?_
    refine GC.more tfine 2 rfl rfl rfl trivial ?_
    refine GC.step 3 rfl rfl (tv := toTV (.bool (keepsM (primalM p 1) r.1 r.2))) (ms := []) (Steps.callPlain rfl rfl rfl rfl (fun args w => Try.call60 args w) (fun m' hle ρ w1 hs hok => ?_)) rfl ?_
    · obtain ⟨⟨us, hcon, _⟩, _⟩ := hs.ok 14 _ (hle.at rfl)
      exact refKeeps_any _ (primalM p 1) us Ax cx r.1 r.2 w1 hcon (hAx.below hs.fr.toBelow) (fun i hi => by
        have := primalM_rows p 1 g5 (cAt (primalM p 1) i) (by rw [cAt, List.getD_eq_getElem?_getD, List.getElem?_eq_getElem hi]; exact List.getElem_mem hi)
        omega) hrl (by rw [primalM_len]; omega)
    refine GC.more tfine 4 rfl rfl rfl trivial ?_
    refine GC.nil ?_
    refine G.ret (retK.plain tfine rfl ?_)
    rw [kpR, if_neg h, show readyM p r = 0 by omega, feasM, hin, hln]
    simp
  ·
    intro c c' j hj h
    have hj : j < 6 := hj
    match j, hj, h with
    | 0, _, h => first | rfl | (show some _ = some _; done)
    | 1, _, h => first | rfl | (show some _ = some _; (try rw [h 1 (.inl rfl)]); (try rw [h 1 (.inr ⟨rfl, rfl⟩)]); done)
    | 2, _, h => first | rfl | (show some _ = some _; (try rw [h 1 (.inl rfl)]); (try rw [h 1 (.inr ⟨rfl, rfl⟩)]); done)
    | 3, _, h => first | rfl | (show some _ = some _; (try rw [h 1 (.inl rfl)]); (try rw [h 1 (.inr ⟨rfl, rfl⟩)]); done)
    | 4, _, h => first | rfl | (show some _ = some _; (try rw [h 1 (.inl rfl)]); (try rw [h 1 (.inr ⟨rfl, rfl⟩)]); done)
    | 5, _, h => first | rfl | (show some _ = some _; (try rw [h 1 (.inl rfl)]); (try rw [h 1 (.inr ⟨rfl, rfl⟩)]); done)
theorem refLowest_any (rv : Value) (r : Rat) (w : World) (hr : RatAt w rv r) (hrl : r.1.length ≤ 100000) :
    Calls Try.prog 30 #[rv] w fun e w' => Ans w w' [ratRV (lowR r), .c (.p (I (lowE r)))] e ∧ Below w.heap.size w w' := by
  obtain ⟨nv, rfl, ⟨Ax, cx, rfl, hAx, hcx⟩⟩ := hr
  refine enterAns tfine _ Try.func30 rfl 18 Try.ntmps30 [.agg [.inp 1003 Ax r.1.length cx, .k (I r.2)]] [⟨1003, Ax, 1, r.1.length, elI r.1⟩] rfl rfl ⟨hAx, trivial⟩ ⟨⟨.inl ⟨rfl, rfl, rfl⟩, trivial, trivial⟩, trivial⟩ ?_
  refine G.seqR tfine rfl trivial ?_
  refine G.seq ?_
  refine G.seqR tfine rfl trivial ?_
  refine G.cond (b := decide ((r.1.length : Int) > 4)) rfl (fun h => ?_) (fun h => ?_)
  · have h := of_decide_eq_true h
    have he : lowE r = 8 := by rw [lowE, if_pos (by omega)]
    rw [lowR, he, if_pos (by decide)]
    refine G.seqR tfine rfl trivial ?_
    exact G.ret (endAns.ret ⟨⟨_, rfl, ⟨⟨rfl, rfl, fun a h => by cases h⟩, rfl, trivial⟩⟩, ⟨_, rfl, rfl⟩, trivial⟩)
  have h5 := of_decide_eq_false h
  refine G.skip ?_
  refine G.seq ?_
  refine G.seqC tfine rfl trivial ?_
  refine GO.callPlain (v := .bool (inM r.1 r.2)) rfl rfl rfl rfl (fun args w => Try.call59 args w) (fun ρ w1 hs hok => ?_) ?_
  · have := right_any _ r w1 ⟨_, rfl, ⟨Ax, cx, rfl, hAx.below hs.fr.toBelow, hcx⟩⟩ hrl r.1.length
    rw [show (((r.1.length : Int) == (r.1.length : Int)) && inM r.1 r.2) = inM r.1 r.2 by simp] at this
    exact this
  refine GO.fin tfine rfl trivial ?_
  refine G.cond (b := !(inM r.1 r.2)) rfl (fun h => ?_) (fun h => ?_)
  · have h : inM r.1 r.2 = false := by simpa using h
    have he : lowE r = 2 := by rw [lowE, if_neg (by omega), if_pos h]
    rw [lowR, he, if_pos (by decide)]
    refine G.seqR tfine rfl trivial ?_
    exact G.ret (endAns.ret ⟨⟨_, rfl, ⟨⟨rfl, rfl, fun a h => by cases h⟩, rfl, trivial⟩⟩, ⟨_, rfl, rfl⟩, trivial⟩)
  have hin : inM r.1 r.2 = true := by simpa using h
  have he : lowE r = 0 := by rw [lowE, if_neg (by omega), if_neg (by rw [hin]; decide)]
  obtain ⟨o1, o2⟩ := inM_over hin
  rw [lowR, he, if_neg (by decide)]
  refine G.skip ?_
  refine G.seqC tfine rfl trivial ?_
  refine GO.callAns [.agg [.r (lowL r.1 r.2).length 1 (elI (lowL r.1 r.2)), .p (I (lowO r.1 r.2))]] [813] rfl rfl rfl rfl ⟨rfl, rfl, rfl, trivial⟩ (fun args w => Try.call69 args w) (fun ρ w1 hs hok => refShorten_any Ax cx r.1 r.2 w1 (hAx.below hs.fr.toBelow) hrl o1 (by omega) (fun k hk => by have := inM_nums hin k hk; omega)) ?_
  refine GO.fin tfine rfl trivial ?_
  exact G.ret (endAns.ret ⟨⟨_, rfl, ⟨⟨rfl, Nat.le_refl _, _, _, rfl, Nat.le_refl _, fun i hi => rfl⟩, rfl, trivial⟩⟩, ⟨_, rfl, rfl⟩, trivial⟩)
end Go.Proofs.Ytafhnfcahhlanaa
/- Chapter 27: the law of Value, Keeps and Lowest. -/
set_option linter.unusedVariables false
set_option linter.unusedSimpArgs false
set_option maxRecDepth 8000
set_option maxHeartbeats 2000000
namespace Go.Proofs.Ytafhnfcahhlanaa
open Go.Sx Go.RowKit
theorem Ans.ratE {w w' : World} {n sz : Nat} {el : Nat → List Value} {v u : Value} {e : Ending} (h : Ans w w' [.agg [.r n sz el, .p v], .c (.p u)] e) : ∃ A c, e = .returned (.tuple #[.agg #[.slice A n c, v], u]) ∧ n ≤ c ∧ RdNew w w' A n sz el := by
  obtain ⟨cs, h1, rfl⟩ := h
  match cs, h1 with
  | [u1, u2, u3], ⟨⟨A, c, e1, h2, _, h3⟩, e2, e3, _⟩ =>
    subst e1
    have e2 : u2 = v := e2
    have e3 : u3 = u := e3
    subst e2 e3
    exact ⟨A, c, rfl, h2, h3⟩
  | [], h => exact h.elim
  | [_], h => exact h.2.elim
  | [_, _], h => exact h.2.2.elim
  | _ :: _ :: _ :: _ :: _, h => exact h.2.2.2.elim
theorem ratC {f : FuncId} {args : Array Value} {w : World} {r : Rat} {x : Int} (h : Calls Try.prog f args w fun e w' => Ans w w' [ratRV r, .c (.p (I x))] e ∧ Below w.heap.size w w') :
    Calls Try.prog f args w fun e w' => ∃ u : Cho, e = .returned (.tuple #[.agg #[slV r.1.length u, I r.2], I x]) ∧ Below w.heap.size w w' ∧ IntsAt w' (slV r.1.length u) r.1 ∧ (∀ k, sb (slV r.1.length u) k → w.heap.size ≤ k ∧ k < w'.heap.size) ∧ Steady (sb (slV r.1.length u)) (fun w => IntsAt w (slV r.1.length u) r.1) := by
  refine h.mono ?_
  rintro e w' ⟨h, hb⟩
  obtain ⟨A1, c1, rfl, hc, hr⟩ := Ans.ratE h
  have hs := rdNew_sb hr (c := c1)
  refine ⟨(.slice A1 r.1.length c1, fun _ => False), by rw [slV_eq hc], hb, ?_, by rw [slV_eq hc]; exact hs, fun w1 w2 h1 h2 h => steady_ints w1 w2 h1 h2 h⟩
  rw [slV_eq hc]
  exact ⟨A1, c1, rfl, hr.rd, fun _ => hc⟩
theorem eqI_refl (l : List Int) : eqI l l = true := by
  have : ((List.range' 0 l.length).any fun k => l.getD k 0 != l.getD k 0) = false := by
    rw [List.any_eq_false]
    intro k _
    simp
  rw [eqI, this]
  simp
theorem sameR_refl (r : Rat) : sameR r r = true := by rw [sameR, eqI_refl]; simp
theorem few_len {p : Prob} (h : fewM p = true) : p.obj.length ≤ 8 ∧ p.rows.length ≤ 8 ∧ p.lim.length ≤ 8 ∧ ∀ r ∈ p.rows, r.length ≤ 8 := by
  rw [fewM, Bool.and_eq_true, Bool.not_eq_true', Bool.not_eq_true', Bool.or_eq_false_iff, Bool.or_eq_false_iff] at h
  obtain ⟨⟨⟨h1, h2⟩, h3⟩, h4⟩ := h
  have h1 := of_decide_eq_false h1
  have h2 := of_decide_eq_false h2
  have h3 := of_decide_eq_false h3
  refine ⟨by omega, by omega, by omega, fun r hr => ?_⟩
  have := anyRow_no (by rw [h4]; decide) r hr
  have := of_decide_eq_false this
  omega
theorem LinearValues_any (p : Prob) (pv rv : Value) (vs0 : Nat → Value) (r : Rat) (w : World) (hp : ProbAt w pv p vs0) (hr : RatAt w rv r) (h2 : p.rows.length ≤ 9223372036854775807) :
    Calls Try.prog 8 #[pv, rv] w fun e w' => e = .returned (.bool true) ∧ Below w.heap.size w w' := by
  have hp0 := hp
  obtain ⟨ov, rv2, lv, rfl, ⟨Ao, co, rfl, ho, hoc⟩, ⟨Ar, cr, rfl, hrr, hrc, hri⟩, ⟨Al, cl, rfl, hl, hlc⟩⟩ := hp
  obtain ⟨nv, rfl, ⟨Ax, cx, rfl, hAx, hcx⟩⟩ := hr
  have hr0 : ∀ {w1 : World}, Below w.heap.size w w1 → RatAt w1 (.agg #[.slice Ax r.1.length cx, I r.2]) r := fun hb => ⟨_, rfl, ⟨Ax, cx, rfl, hAx.below hb, hcx⟩⟩
  refine enterSay [] [.agg [.k (.slice Ao p.obj.length co), .k (.slice Ar p.rows.length cr), .k (.slice Al p.lim.length cl)], .agg [.k (.slice Ax r.1.length cx), .k (I r.2)]] [] Try.func8 rfl 90 Try.ntmps8 rfl rfl ⟨⟨trivial, trivial, trivial, trivial⟩, ⟨trivial, trivial, trivial⟩, trivial⟩ trivial ?_
  refine G.seqR tfine rfl trivial ?_
  refine G.seq ?_
  refine G.seqC tfine rfl trivial ?_
  refine GO.callPlain (v := .bool true) rfl rfl rfl rfl (fun args w => Try.call9 args w) (fun ρ w1 hs hok => awake_any w1) ?_
  refine GO.fin tfine rfl trivial ?_
  refine G.cond_false rfl ?_
  refine G.skip ?_
  refine G.seq ?_
  refine G.seqC tfine rfl trivial ?_
  refine GO.callPlain (v := .bool (fewM p)) rfl rfl rfl rfl (fun args w => Try.call10 args w) (fun ρ w1 hs hok => Few_any p _ vs0 w1 (hp0.below hs.fr.toBelow) h2) ?_
  refine GO.fin tfine rfl ?_ ?_
  · first | trivial | (simp [AllP, condB]; done) | (simp only [AllP]; and_intros <;> first | trivial | decide | omega) | (simp [AllP, condB]; intros; and_intros <;> first | assumption | omega) | (simp [AllP, condB]; intros; simp_all; done)
  refine G.cond (b := !(fewM p) || decide ((r.1.length : Int) > 8)) ?_ (fun h => ?_) (fun h => ?_)
  · cases fewM p <;> rfl
  · refine G.seqR tfine rfl trivial ?_
    exact G.ret (retK.plain tfine rfl rfl)
  rw [Bool.or_eq_false_iff] at h
  obtain ⟨hf, hx⟩ := h
  have hf : fewM p = true := by simpa using hf
  have hx := of_decide_eq_false hx
  obtain ⟨l1, l2, l3, l4⟩ := few_len hf
  refine G.skip ?_
  refine G.seqC tfine rfl trivial ?_
  refine GO.callSay 871 (fun u : Cho => .tuple #[.agg #[slV (valR p r).1.length u, I (valR p r).2], I (readyM p r)]) (fun u => sb (slV (valR p r).1.length u)) (fun u w => IntsAt w (slV (valR p r).1.length u) (valR p r).1) rfl rfl rfl rfl rfl (fun args w => Try.call19 args w) (fun ρ w1 hs hok => ratC (Value_any p _ _ vs0 r w1 (hp0.below hs.fr.toBelow) (hr0 hs.fr.toBelow) (by omega) (by omega) (by omega) (fun r hr => by have := l4 r hr; omega) (by omega))) fun u1 => ?_
  refine GO.fin tfine rfl trivial ?_
  refine G.seqC tfine rfl trivial ?_
  refine GO.callSay 872 (fun u : Cho => .tuple #[.agg #[slV (valR p r).1.length u, I (valR p r).2], I (readyM p r)]) (fun u => sb (slV (valR p r).1.length u)) (fun u w => IntsAt w (slV (valR p r).1.length u) (valR p r).1) rfl rfl rfl rfl rfl (fun args w => Try.call27 args w) (fun ρ w1 hs hok => ratC (refValue_any p _ _ vs0 r w1 (hp0.below hs.fr.toBelow) (hr0 hs.fr.toBelow) (by omega) (by omega) (by omega) (fun r hr => by have := l4 r hr; omega) (by omega))) fun u2 => ?_
  refine GO.fin tfine rfl trivial ?_
  refine G.seqC tfine rfl trivial ?_
  refine GO.callPlain (v := .tuple #[.bool (kpR p r), I (readyM p r)]) rfl rfl rfl rfl (fun args w => Try.call23 args w) (fun ρ w1 hs hok => Keeps_any p _ _ vs0 r w1 (hp0.below hs.fr.toBelow) (hr0 hs.fr.toBelow) (by omega) (by omega) (by omega) (fun r hr => by have := l4 r hr; omega) (by omega)) ?_
  refine GO.fin tfine rfl trivial ?_
  refine G.seqC tfine rfl trivial ?_
  refine GO.callPlain (v := .tuple #[.bool (kpR p r), I (readyM p r)]) rfl rfl rfl rfl (fun args w => Try.call28 args w) (fun ρ w1 hs hok => refKeepsTop_any p _ _ vs0 r w1 (hp0.below hs.fr.toBelow) (hr0 hs.fr.toBelow) (by omega) (by omega) (by omega) (fun r hr => by have := l4 r hr; omega) (by omega)) ?_
  refine GO.fin tfine rfl trivial ?_
  refine G.seqC tfine rfl trivial ?_
  refine GO.callSay 873 (fun u : Cho => .tuple #[.agg #[slV (lowR r).1.length u, I (lowR r).2], I (lowE r)]) (fun u => sb (slV (lowR r).1.length u)) (fun u w => IntsAt w (slV (lowR r).1.length u) (lowR r).1) rfl rfl rfl rfl rfl (fun args w => Try.call29 args w) (fun ρ w1 hs hok => ratC (Lowest_any _ r w1 (hr0 hs.fr.toBelow) (by omega))) fun u3 => ?_
  refine GO.fin tfine rfl trivial ?_
  refine G.seqC tfine rfl trivial ?_
  refine GO.callSay 874 (fun u : Cho => .tuple #[.agg #[slV (lowR r).1.length u, I (lowR r).2], I (lowE r)]) (fun u => sb (slV (lowR r).1.length u)) (fun u w => IntsAt w (slV (lowR r).1.length u) (lowR r).1) rfl rfl rfl rfl rfl (fun args w => Try.call30 args w) (fun ρ w1 hs hok => ratC (refLowest_any _ r w1 (hr0 hs.fr.toBelow) (by omega))) fun u4 => ?_
  refine GO.fin tfine rfl trivial ?_
  have lv8 : (valR p r).1.length ≤ 1000000 := by
    unfold valR
    split
    · simp
    · simp [valueL, lowL]
  have ll8 : (lowR r).1.length ≤ 1000000 := by
    unfold lowR
    split
    · simp
    · simp [lowL]; omega
  refine G.seqC tfine rfl trivial ?_
  refine GO.callPlain (v := .bool true) rfl rfl rfl rfl (fun args w => Try.call20 args w) (fun ρ w1 hs hok => ?_) ?_
  · have := SameRatios_any (.agg #[slV (valR p r).1.length u1, I (valR p r).2]) (.agg #[slV (valR p r).1.length u2, I (valR p r).2]) (valR p r) (valR p r) w1 ⟨_, rfl, (hs.ok 871 _ rfl).1⟩ ⟨_, rfl, (hs.ok 872 _ rfl).1⟩ lv8
    rw [sameR_refl] at this
    exact this
  refine GO.more tfine rfl ?_ ?_
  · first | trivial | (simp [AllP, condB]; done) | (simp only [AllP]; and_intros <;> first | trivial | decide | omega) | (simp [AllP, condB]; intros; and_intros <;> first | assumption | omega) | (simp [AllP, condB]; intros; simp_all; done)
  refine GO.callGuard (.bool true) rfl rfl rfl (by first | exact trivial | exact ⟨id, trivial⟩ | exact ⟨id, id, trivial⟩ | exact ⟨id, id, id, trivial⟩) rfl rfl (fun args w => Try.call20 args w) rfl (fun hct m' hle ρ w1 hs hok => ?_) ?_
  · have := SameRatios_any (.agg #[slV (lowR r).1.length u3, I (lowR r).2]) (.agg #[slV (lowR r).1.length u4, I (lowR r).2]) (lowR r) (lowR r) w1 ⟨_, rfl, (hs.ok 873 _ (hle.at rfl)).1⟩ ⟨_, rfl, (hs.ok 874 _ (hle.at rfl)).1⟩ ll8
    rw [sameR_refl] at this
    exact this
  refine GO.fin tfine rfl ?_ ?_
  · first | trivial | (simp [AllP, condB]; done) | (simp only [AllP]; and_intros <;> first | trivial | decide | omega) | (simp [AllP, condB]; intros; and_intros <;> first | assumption | omega) | (simp [AllP, condB]; intros; simp_all; done)
  refine G.ret (retK.plain tfine rfl ?_)
  simp
end Go.Proofs.Ytafhnfcahhlanaa
/- Chapter 27: the laws for every argument. -/
set_option linter.unusedVariables false
set_option linter.unusedSimpArgs false
set_option maxRecDepth 8000
set_option maxHeartbeats 1000000
namespace Go.Proofs.Ytafhnfcahhlanaa
open Go.Sx Go.RowKit
theorem pick_listL {β : Type} {p : β → List Value → Prop} : ∀ {l : List (List Value)}, (∀ es ∈ l, ∃ b, p b es) → ∃ bs : List β, bs.length = l.length ∧ ∀ i (hi : i < l.length) (hj : i < bs.length), p bs[i] l[i]
  | [], _ => ⟨[], rfl, fun i hi => absurd hi (Nat.not_lt_zero i)⟩
  | es :: l, h => by
    obtain ⟨b, hb⟩ := h es List.mem_cons_self
    obtain ⟨bs, h1, h2⟩ := pick_listL (l := l) fun es he => h es (List.mem_cons_of_mem _ he)
    refine ⟨b :: bs, by simp [h1], fun i hi hj => ?_⟩
    cases i with
    | zero => exact hb
    | succ i => exact h2 i (by simpa using hi) (by simpa using hj)
theorem rowInts {w : World} {A : Option Addr} {c : Nat} {ess : List (List Value)} {d : Nat} (hr : RdRow w A ess.length 1 (fun i => ess.getD i [])) (hc : ess.length ≤ c) (hw : ∀ es ∈ ess, LeafAll (Leaf.says w (d + 1)) [.int .i64] es) :
    ∃ l : List Int, l.length = ess.length ∧ IntsAt w (.slice A ess.length c) l := by
  obtain ⟨l, h1, h2⟩ := pick_listL (β := Int) (p := fun x es => es = [I x]) (l := ess) fun es he => by
    obtain ⟨_, _, rfl, ⟨a0, rfl, _⟩, e0⟩ := (hw es he).cons
    obtain rfl := e0.nil
    exact ⟨a0, rfl⟩
  refine ⟨l, h1, A, c, by rw [h1], ?_, fun _ => by omega⟩
  rw [h1]
  refine hr.congr fun i hi => ?_
  show elI l i = _
  rw [elI, List.getD_eq_getElem?_getD, List.getD_eq_getElem?_getD, List.getElem?_eq_getElem hi, List.getElem?_eq_getElem (by omega)]
  exact (h2 i hi (by omega)).symm
theorem rowMat {w : World} {A : Option Addr} {c : Nat} {ess : List (List Value)} {d : Nat} (hr : RdRow w A ess.length 1 (fun i => ess.getD i [])) (hc : ess.length ≤ c) (hw : ∀ es ∈ ess, LeafAll (Leaf.says w (d + 2)) [.row 1 [.int .i64]] es) :
    ∃ (M : List (List Int)) (vs : Nat → Value), M.length = ess.length ∧ MatAt w (.slice A ess.length c) M vs := by
  obtain ⟨l, h1, h2⟩ := pick_listL (β := Value × List Int) (p := fun x es => es = [x.1] ∧ IntsAt w x.1 x.2) (l := ess) fun es he => by
    obtain ⟨_, _, rfl, ⟨a0, len, cap, rfl, _, ⟨_, hcap⟩, ess2, rfl, hr2, hw2⟩, e0⟩ := (hw es he).cons
    obtain rfl := e0.nil
    obtain ⟨l2, _, h3⟩ := rowInts hr2 hcap hw2
    exact ⟨(_, l2), rfl, h3⟩
  refine ⟨l.map (·.2), fun i => (l.getD i (undef, [])).1, by simpa using h1, A, c, by simp [h1], ?_, fun _ => by simp [h1]; omega, fun i hi => ?_⟩
  · rw [List.length_map, h1]
    refine hr.congr fun i hi => ?_
    simp only [List.getD_eq_getElem?_getD, List.getElem?_eq_getElem hi, List.getElem?_eq_getElem (show i < l.length by omega), Option.getD_some]
    exact (h2 i hi (by omega)).1.symm
  · have hi : i < l.length := by simpa using hi
    have := (h2 i (by omega) hi).2
    simp only [List.getD_eq_getElem?_getD, List.getElem?_map, List.getElem?_eq_getElem hi, Option.map_some, Option.getD_some]
    exact this
theorem rowProb {w : World} {A B C : Option Addr} {c d e : Nat} {ea eb ec : List (List Value)} {k : Nat} (r1 : RdRow w A ea.length 1 (fun i => ea.getD i [])) (m1 : ea.length ≤ maxLen ∧ ea.length ≤ c) (w1 : ∀ es ∈ ea, LeafAll (Leaf.says w (k + 2)) [.int .i64] es)
    (r2 : RdRow w B eb.length 1 (fun i => eb.getD i [])) (m2 : eb.length ≤ maxLen ∧ eb.length ≤ d) (w2 : ∀ es ∈ eb, LeafAll (Leaf.says w (k + 2)) [.row 1 [.int .i64]] es)
    (r3 : RdRow w C ec.length 1 (fun i => ec.getD i [])) (m3 : ec.length ≤ maxLen ∧ ec.length ≤ e) (w3 : ∀ es ∈ ec, LeafAll (Leaf.says w (k + 2)) [.int .i64] es) :
    ∃ p vs, ProbAt w (.agg #[.slice A ea.length c, .slice B eb.length d, .slice C ec.length e]) p vs ∧ p.rows.length ≤ 9223372036854775807 := by
  obtain ⟨l1, h1, i1⟩ := rowInts r1 m1.2 w1
  obtain ⟨M, vs, h2, i2⟩ := rowMat r2 m2.2 w2
  obtain ⟨l3, h3, i3⟩ := rowInts r3 m3.2 w3
  refine ⟨⟨l1, M, l3⟩, vs, ⟨_, _, _, rfl, i1, i2, i3⟩, ?_⟩
  show M.length ≤ _
  have := m2.1
  unfold maxLen at this
  omega
theorem LinearValues_row (a0 : Option Addr) (c0 : Nat) (e0 : List (List Value)) (a1 : Option Addr) (c1 : Nat) (e1 : List (List Value)) (a2 : Option Addr) (c2 : Nat) (e2 : List (List Value)) (b0 : Option Addr) (d0 : Nat) (f0 : List (List Value)) (b1 : Int) (w : World)
    (r0 : RdRow w a0 e0.length 1 (fun i => e0.getD i [])) (n0 : a0 = none → e0.length = 0) (m0 : e0.length ≤ maxLen ∧ e0.length ≤ c0) (w0 : ∀ es ∈ e0, LeafAll (Leaf.says w 3) [.int .i64] es)
    (r1 : RdRow w a1 e1.length 1 (fun i => e1.getD i [])) (n1 : a1 = none → e1.length = 0) (m1 : e1.length ≤ maxLen ∧ e1.length ≤ c1) (w1 : ∀ es ∈ e1, LeafAll (Leaf.says w 3) [.row 1 [.int .i64]] es)
    (r2 : RdRow w a2 e2.length 1 (fun i => e2.getD i [])) (n2 : a2 = none → e2.length = 0) (m2 : e2.length ≤ maxLen ∧ e2.length ≤ c2) (w2 : ∀ es ∈ e2, LeafAll (Leaf.says w 3) [.int .i64] es)
    (s0 : RdRow w b0 f0.length 1 (fun i => f0.getD i [])) (t0 : b0 = none → f0.length = 0) (u0 : f0.length ≤ maxLen ∧ f0.length ≤ d0) (v0 : ∀ es ∈ f0, LeafAll (Leaf.says w 3) [.int .i64] es) :
    Calls Try.prog 8 #[.agg #[.slice a0 e0.length c0, .slice a1 e1.length c1, .slice a2 e2.length c2], .agg #[.slice b0 f0.length d0, I b1]] w fun e w' => e = .returned (.bool true) ∧ Below w.heap.size w w' := by
  obtain ⟨p, vs, hp, hp2⟩ := rowProb r0 m0 w0 r1 m1 w1 r2 m2 w2
  obtain ⟨l, _, hl⟩ := rowInts s0 u0.2 v0
  exact LinearValues_any p _ _ vs (l, b1) w hp ⟨_, rfl, hl⟩ hp2
end Go.Proofs.Ytafhnfcahhlanaa
