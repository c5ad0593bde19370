/- Chapter 05: three laws about what is corrected, for all numbers. -/
import Derived.Test.YtbgbndiokckboaaThF
set_option linter.unusedVariables false
set_option linter.unusedSimpArgs false
set_option maxRecDepth 8000
namespace Go.Proofs.Ytbgbndiokckboaa
open Go.Sx Go.RowKit
theorem to20_ok {v r h k : Int} (hz : (thermal_To20 v r h k).2 = 0) : rdy v r h k = 0 ∧ (thermal_To20 v r h k).1 = rndQ (v * 10000000) (fac r h) k ∧ rndQ (v * 10000000) (fac r h) k ≤ M := by
  by_cases h0 : rdy v r h k = 0
  · refine ⟨h0, ?_⟩
    rw [to20_full h0] at hz ⊢
    split at hz
    · cases hz
    · rename_i h1; rw [if_neg h1]; exact ⟨rfl, by omega⟩
  · rw [to20_err h0] at hz; exact absurd hz h0
theorem at_ok {v r h k : Int} (hz : (thermal_At v r h k).2 = 0) : rdy v r h k = 0 ∧ (thermal_At v r h k).1 = rndQ (v * fac r h) 10000000 k := by
  by_cases h0 : rdy v r h k = 0
  · refine ⟨h0, ?_⟩
    rw [at_full h0] at hz ⊢
    split at hz
    · cases hz
    · rename_i h1; rw [if_neg h1]
  · rw [at_err h0] at hz; exact absurd hz h0
theorem back_true (v r h k : Int) : spilelaw05_ThermalBack v r h k = true := by
  by_cases hz : rdy v r h k = 0
  · obtain ⟨hk, h1, h2, h3⟩ := rdy_ok hz
    have hf := fac_bd h1 h2
    have hv := amtB_true h3
    have hA := at_full hz
    have hB := to20_full hz
    have hs : h = 200 ∨ r = 0 → fac r h = 10000000 := by
      rintro (rfl | rfl) <;> simp [fac]
    have second : ∀ x, 0 ≤ x → x ≤ M → rdy x r h k = 0 := fun x hx hm => rdy_of hk h1 h2 (amt_of ⟨hx, hm⟩)
    have toSecond := fun x hx hm => to20_full (second x hx hm)
    have atSecond := fun x hx hm => at_full (second x hx hm)
    obtain ⟨f, hfe⟩ : ∃ f, f = fac r h := ⟨_, rfl⟩
    rw [← hfe] at hf hA hB hs toSecond atSecond
    have nA := rnd_near (x := v * f) (c := 10000000) (k := k) (by decide)
    have pA := rnd_nonneg (x := v * f) (c := 10000000) (k := k) (by decide) (Int.mul_nonneg hv.1 (by omega))
    have nB := rnd_near (x := v * 10000000) (c := f) (k := k) (by omega)
    have pB := rnd_nonneg (x := v * 10000000) (c := f) (k := k) (by omega) (by omega)
    have eA : f = 10000000 → rndQ (v * f) 10000000 k = v := fun e => by rw [e]; exact rnd_exact (by decide)
    have eB : f = 10000000 → rndQ (v * 10000000) f k = v := fun e => by rw [e]; exact rnd_exact (by decide)
    obtain ⟨A, eqA⟩ : ∃ A, A = rndQ (v * f) 10000000 k := ⟨_, rfl⟩
    obtain ⟨B, eqB⟩ : ∃ B, B = rndQ (v * 10000000) f k := ⟨_, rfl⟩
    rw [← eqA] at nA pA eA hA
    rw [← eqB] at nB pB eB hB
    have nC := rnd_near (x := A * 10000000) (c := f) (k := k) (by omega)
    have pC := rnd_nonneg (x := A * 10000000) (c := f) (k := k) (by omega) (by omega)
    have nD := rnd_near (x := B * f) (c := 10000000) (k := k) (by decide)
    have pD := rnd_nonneg (x := B * f) (c := 10000000) (k := k) (by decide) (Int.mul_nonneg pB (by omega))
    have hC := toSecond A pA
    have hD := atSecond B pB
    obtain ⟨C, eqC⟩ : ∃ C, C = rndQ (A * 10000000) f k := ⟨_, rfl⟩
    obtain ⟨D, eqD⟩ : ∃ D, D = rndQ (B * f) 10000000 k := ⟨_, rfl⟩
    rw [← eqC] at nC pC hC
    rw [← eqD] at nD pD hD
    have c1 : C - v ≤ 4 := by
      false_or_by_contra
      have := Int.mul_le_mul_of_nonneg_right (show 5 ≤ C - v by omega) (show 0 ≤ f by omega)
      rw [Int.sub_mul] at this
      omega
    have c2 : v - C ≤ 4 := by
      false_or_by_contra
      have := Int.mul_le_mul_of_nonneg_right (show 5 ≤ v - C by omega) (show 0 ≤ f by omega)
      rw [Int.sub_mul] at this
      omega
    have d1 : D - v ≤ 3 := by omega
    have d2 : v - D ≤ 3 := by omega
    have w1 : IntKind.i64.wrap (C - v) = C - v := IntWalk.i64_in _ (by unfold M at *; omega)
    have w2 : IntKind.i64.wrap (v - C) = v - C := IntWalk.i64_in _ (by unfold M at *; omega)
    have w3 : IntKind.i64.wrap (D - v) = D - v := IntWalk.i64_in _ (by unfold M at *; omega)
    have w4 : IntKind.i64.wrap (v - D) = v - D := IntWalk.i64_in _ (by unfold M at *; omega)
    have i1 : decide (C - v > 4) = false := decide_eq_false (by omega)
    have i2 : decide (v - C > 4) = false := decide_eq_false (by omega)
    have i3 : decide (D - v > 3) = false := decide_eq_false (by omega)
    have i4 : decide (v - D > 3) = false := decide_eq_false (by omega)
    have fin : (h == 200 || r == 0) = true → A = v ∧ B = v := fun hh => by
      have e := hs (by simpa using hh)
      exact ⟨eA e, eB e⟩
    have last : ∀ a b : Int, ∀ e g : Int, ((e == 0) = true → a = A) → ((g == 0) = true → b = B) → ((e == 0) = false → a = 0 ∧ A > M) → ((g == 0) = false → b = 0 ∧ B > M) →
        (if ((h == 200 || r == 0) && (e == 0 || g == 0)) = true then ((e == g && a == v) && b == v) else ((e == 0 || a == 0) && (g == 0 || b == 0))) = true := by
      intro a b e g q1 q2 q3 q4
      cases hh : (h == 200 || r == 0) with
      | true =>
        obtain ⟨f1, f2⟩ := fin hh
        have he : (e == 0) = true := by
          cases he : (e == 0) with
          | true => rfl
          | false => have := (q3 he).2; omega
        have hg : (g == 0) = true := by
          cases hg : (g == 0) with
          | true => rfl
          | false => have := (q4 hg).2; omega
        rw [he, hg, q1 he, q2 hg, f1, f2]
        have : e = 0 := by simpa using he
        have : g = 0 := by simpa using hg
        simp [*]
      | false =>
        cases he : (e == 0) <;> cases hg : (g == 0) <;> simp_all
    unfold spilelaw05_ThermalBack
    by_cases mA : A > M
    · rw [if_pos mA] at hA
      by_cases mB : B > M
      · rw [if_pos mB] at hB
        rw [hA, hB]
        exact last 0 0 15 15 (by simp) (by simp) (fun _ => ⟨rfl, mA⟩) (fun _ => ⟨rfl, mB⟩)
      · rw [if_neg mB] at hB
        have hD := hD (by omega)
        rw [hA, hB]
        simp only
        have := last 0 B 15 0 (by simp) (by simp) (fun _ => ⟨rfl, mA⟩) (by simp)
        by_cases mD : D > M
        · rw [if_pos mD] at hD
          rw [hD]; exact this
        · rw [if_neg mD] at hD
          rw [hD]
          simp only
          rw [w3, w4, i3, i4]; exact this
    · rw [if_neg mA] at hA
      have hC := hC (by omega)
      by_cases mB : B > M
      · rw [if_pos mB] at hB
        rw [hA, hB]
        simp only
        have := last A 0 0 15 (by simp) (by simp) (by simp) (fun _ => ⟨rfl, mB⟩)
        by_cases mC : C > M
        · rw [if_pos mC] at hC
          rw [hC]; exact this
        · rw [if_neg mC] at hC
          rw [hC]
          simp only
          rw [w1, w2, i1, i2]; exact this
      · rw [if_neg mB] at hB
        have hD := hD (by omega)
        rw [hA, hB]
        simp only
        have := last A B 0 0 (by simp) (by simp) (by simp) (by simp)
        by_cases mC : C > M
        · rw [if_pos mC] at hC
          by_cases mD : D > M
          · rw [if_pos mD] at hD
            rw [hC, hD]; exact this
          · rw [if_neg mD] at hD
            rw [hC, hD]
            simp only
            rw [w3, w4, i3, i4]; exact this
        · rw [if_neg mC] at hC
          by_cases mD : D > M
          · rw [if_pos mD] at hD
            rw [hC, hD]
            simp only
            rw [w1, w2, i1, i2]; exact this
          · rw [if_neg mD] at hD
            rw [hC, hD]
            simp only
            rw [w1, w2, w3, w4, i1, i2, i3, i4]; exact this
  · unfold spilelaw05_ThermalBack
    rw [at_err hz, to20_err hz]
    have : (rdy v r h k == 0) = false := by simpa using hz
    simp only [this]
    simp
theorem fac_mono {r s t : Int} (hr : 0 ≤ r) (h : s ≤ t) : fac r s ≤ fac r t := by
  have := Int.mul_le_mul_of_nonneg_left (show s - 200 ≤ t - 200 by omega) hr
  unfold fac
  omega
theorem order_true (v more r s t k : Int) : spilelaw05_ThermalOrder v more r s t k = true := by
  unfold spilelaw05_ThermalOrder
  split
  · rfl
  rename_i hg
  simp only [Bool.or_eq_true, decide_eq_true_eq, not_or] at hg
  have wv : 0 ≤ v → IntKind.i64.wrap (v + more) = v + more := fun hv => IntWalk.i64_in _ (by omega)
  have c1 : (thermal_To20 v r s k).2 = 0 → (thermal_To20 v r t k).2 = 0 → ¬ (thermal_To20 v r t k).1 > (thermal_To20 v r s k).1 := by
    intro a b
    obtain ⟨a1, a2, _⟩ := to20_ok a
    obtain ⟨b1, b2, _⟩ := to20_ok b
    obtain ⟨_, x1, x2, x3⟩ := rdy_ok a1
    obtain ⟨_, _, y2, _⟩ := rdy_ok b1
    have fs := fac_bd x1 x2
    have ft := fac_bd x1 y2
    have hv := amtB_true x3
    have := rnd_frac (x := v * 10000000) (c := fac r t) (y := v * 10000000) (d := fac r s) (k := k) (by omega) (by omega) (Int.mul_le_mul_of_nonneg_left (fac_mono fs.1.1 (by omega)) (by omega))
    omega
  have c2 : (thermal_To20 v r s k).2 = 0 → (thermal_To20 (IntKind.i64.wrap (v + more)) r s k).2 = 0 → ¬ (thermal_To20 (IntKind.i64.wrap (v + more)) r s k).1 < (thermal_To20 v r s k).1 := by
    intro a b
    obtain ⟨a1, a2, _⟩ := to20_ok a
    obtain ⟨_, x1, x2, x3⟩ := rdy_ok a1
    have fs := fac_bd x1 x2
    have hv := amtB_true x3
    rw [wv hv.1] at b ⊢
    obtain ⟨b1, b2, _⟩ := to20_ok b
    have := rnd_frac (x := v * 10000000) (c := fac r s) (y := (v + more) * 10000000) (d := fac r s) (k := k) (by omega) (by omega) (Int.mul_le_mul_of_nonneg_right (by omega) (by omega))
    omega
  have c3 : (thermal_At v r s k).2 = 0 → (thermal_At v r t k).2 = 0 → ¬ (thermal_At v r t k).1 < (thermal_At v r s k).1 := by
    intro a b
    obtain ⟨a1, a2⟩ := at_ok a
    obtain ⟨b1, b2⟩ := at_ok b
    obtain ⟨_, x1, x2, x3⟩ := rdy_ok a1
    have fs := fac_bd x1 x2
    have hv := amtB_true x3
    have := rnd_frac (x := v * fac r s) (c := 10000000) (y := v * fac r t) (d := 10000000) (k := k) (by omega) (by omega) (Int.mul_le_mul_of_nonneg_right (Int.mul_le_mul_of_nonneg_left (fac_mono fs.1.1 (by omega)) hv.1) (by omega))
    omega
  have c4 : (thermal_At v r s k).2 = 0 → (thermal_At (IntKind.i64.wrap (v + more)) r s k).2 = 0 → ¬ (thermal_At (IntKind.i64.wrap (v + more)) r s k).1 < (thermal_At v r s k).1 := by
    intro a b
    obtain ⟨a1, a2⟩ := at_ok a
    obtain ⟨_, x1, x2, x3⟩ := rdy_ok a1
    have fs := fac_bd x1 x2
    have hv := amtB_true x3
    rw [wv hv.1] at b ⊢
    obtain ⟨b1, b2⟩ := at_ok b
    have := rnd_frac (x := v * fac r s) (c := 10000000) (y := (v + more) * fac r s) (d := 10000000) (k := k) (by omega) (by omega) (Int.mul_le_mul_of_nonneg_right (Int.mul_le_mul_of_nonneg_right (by omega) (by omega)) (by omega))
    omega
  rw [if_neg]
  · simp only [Bool.not_eq_true', Bool.or_eq_false_iff, Bool.and_eq_false_imp, beq_iff_eq, decide_eq_false_iff_not, Bool.and_eq_true]
    exact ⟨fun h => c3 h.1 h.2, fun h => c4 h.1 h.2⟩
  · simp only [Bool.or_eq_true, Bool.and_eq_true, beq_iff_eq, decide_eq_true_eq, not_or, not_and]
    exact ⟨fun h => c1 h.1 h.2, fun h => c2 h.1 h.2⟩
theorem btw_err {a b s t r : Int} (h : (btw3 a b s t r).2.2 ≠ 0) : (btw3 a b s t r).1 = 0 ∧ (btw3 a b s t r).2.1 = 0 := by
  unfold btw3 at *
  split
  · exact ⟨rfl, rfl⟩
  · rename_i h1
    rw [if_neg h1] at h
    split
    · exact ⟨rfl, rfl⟩
    · rename_i h2
      rw [if_neg h2] at h
      split
      · exact ⟨rfl, rfl⟩
      · rename_i h3
        rw [if_neg h3] at h
        exact absurd rfl h
theorem btw_ok {a b s t r : Int} (h : (btw3 a b s t r).2.2 = 0) : a ≤ b ∧ s ≤ t ∧ thermal_rises r = true ∧ thermal_heat s = true ∧ thermal_heat t = true ∧ amtB a = true ∧ amtB b = true ∧ (thermal_To20 a r t 1).2 = 0 ∧ (thermal_To20 b r s 2).2 = 0 ∧
    (btw3 a b s t r).1 = (thermal_To20 a r t 1).1 ∧ (btw3 a b s t r).2.1 = (thermal_To20 b r s 2).1 := by
  unfold btw3 at *
  split at h
  · cases h
  rename_i h1
  split at h
  · cases h
  rename_i h2
  split at h
  · cases h
  rename_i h3
  rw [if_neg h1, if_neg h2, if_neg h3]
  rw [worse_ne (to20_nonneg _ _ _ _) (to20_nonneg _ _ _ _)] at h3
  rw [amount_eq, amount_eq] at h2
  simp only [Bool.or_eq_true, not_or, Bool.not_eq_true', Bool.not_eq_false, decide_eq_true_eq, bne_iff_ne, ne_eq, Decidable.not_not] at h1 h2 h3
  exact ⟨by omega, by omega, h2.1.1.1.1, h2.1.1.1.2, h2.1.1.2, h2.1.2, h2.2, h3.1, h3.2, rfl, rfl⟩
theorem contains_true (a b s t r p q k : Int) (hp : 0 ≤ p ∧ p ≤ 255) (hq : 0 ≤ q ∧ q ≤ 255) : spilelaw05_ThermalContains a b s t r p q k = true := by
  unfold spilelaw05_ThermalContains
  by_cases he : (btw3 a b s t r).2.2 = 0
  rotate_left
  · obtain ⟨e1, e2⟩ := btw_err he
    rw [if_pos (by simpa using he), e1, e2]
    rfl
  rw [if_neg (by simpa using he)]
  obtain ⟨g1, g2, g3, g4, g5, g6, g7, g8, g9, g10, g11⟩ := btw_ok he
  have fs := fac_bd g3 g4
  have ft := fac_bd g3 g5
  have va := amtB_true g6
  have vb := amtB_true g7
  unfold M at va vb
  have hx : ∃ x, IntKind.i64.wrap (a + IntKind.i64.wrap (IntKind.i64.wrap ((IntKind.i64.wrap (b - a)).tdiv 255) * IntKind.i64.wrap p)) = x ∧ a ≤ x ∧ x ≤ b := by
    rw [IntWalk.i64_in (b - a) (by omega), IntWalk.i64_in p (by omega), Int.tdiv_eq_ediv_of_nonneg (by omega), IntWalk.i64_in ((b - a) / 255) (by omega)]
    obtain ⟨d, hd⟩ : ∃ d, d = (b - a) / 255 := ⟨_, rfl⟩
    rw [← hd]
    have l1 : 0 ≤ d * p := Int.mul_nonneg (by omega) hp.1
    have l2 : d * p ≤ d * 255 := Int.mul_le_mul_of_nonneg_left hp.2 (by omega)
    rw [IntWalk.i64_in (d * p) (by omega), IntWalk.i64_in (a + d * p) (by omega)]
    exact ⟨_, rfl, by omega, by omega⟩
  have hy : ∃ y, IntKind.i64.wrap (s + IntKind.i64.wrap ((IntKind.i64.wrap (IntKind.i64.wrap (t - s) * IntKind.i64.wrap q)).tdiv 255)) = y ∧ s ≤ y ∧ y ≤ t := by
    have l1 : 0 ≤ (t - s) * q := Int.mul_nonneg (by omega) hq.1
    have l2 : (t - s) * q ≤ (t - s) * 255 := Int.mul_le_mul_of_nonneg_left hq.2 (by omega)
    rw [IntWalk.i64_in (t - s) (by omega), IntWalk.i64_in q (by omega), IntWalk.i64_in ((t - s) * q) (by omega), Int.tdiv_eq_ediv_of_nonneg l1, IntWalk.i64_in ((t - s) * q / 255) (by omega), IntWalk.i64_in _ (by omega)]
    exact ⟨_, rfl, by omega, by omega⟩
  obtain ⟨x, ex, x1, x2⟩ := hx
  obtain ⟨y, ey, y1, y2⟩ := hy
  rw [ex, ey]
  have hhy : thermal_heat y = true := by
    have := fs.2.1
    have := ft.2.1
    unfold thermal_heat
    simp; omega
  have hax : amtB x = true := amt_of (by unfold M; omega)
  cases hk : isB k with
  | false =>
    have hr : rdy x r y k = 1 := by unfold rdy; rw [hk]; rfl
    rw [to20_err (by rw [hr]; decide), hr, if_pos (by decide)]
    have : k < 1 ∨ k > 4 := by
      have : ¬ (1 ≤ k ∧ k ≤ 4) := by intro h; rw [show isB k = true by unfold isB; simp; omega] at hk; cases hk
      omega
    simpa using this
  | true =>
    have hr := rdy_of hk g3 hhy hax
    have fy := fac_bd g3 hhy
    obtain ⟨_, lo, _⟩ := to20_ok g8
    obtain ⟨_, up, um⟩ := to20_ok g9
    have m1 := rnd_frac (x := a * 10000000) (c := fac r t) (y := x * 10000000) (d := fac r y) (k := 1) (by omega) (by omega)
      (Int.mul_le_mul (by omega) (fac_mono fs.1.1 y2) (by omega) (by omega))
    have m2 := rnd_down (x := x * 10000000) (c := fac r y) (k := k)
    have m3 := rndQ_le_up (a := x * 10000000) (b := fac r y) (rule := k) (by omega)
    have m4 := rnd_frac (x := x * 10000000) (c := fac r y) (y := b * 10000000) (d := fac r s) (k := 2) (by omega) (by omega)
      (Int.mul_le_mul (by omega) (fac_mono fs.1.1 y1) (by omega) (by omega))
    have hfull := to20_full hr
    rw [if_neg (by omega)] at hfull
    rw [hfull, if_neg (by simp), g10, g11, lo, up]
    simp only [Bool.and_eq_true, decide_eq_true_eq]
    exact ⟨by omega, by omega⟩
end Go.Proofs.Ytbgbndiokckboaa
