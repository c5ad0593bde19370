/- Chapter 15: the reference's Together and Total. -/
import Derived.Test.YtiicemgngccicaaGaG
set_option linter.unusedVariables false
set_option linter.unusedSimpArgs false
set_option maxRecDepth 8000
set_option maxHeartbeats 1000000
namespace Go.Proofs.Ytiicemgngccicaa
open Go.Sx Go.RowKit
theorem reading_eq (a b c d : Int) : (gauge_Check a b c d == 0) = spileref15_IsReading a b c d := by
  unfold gauge_Check spileref15_IsReading gauge_in
  rw [heat_eq]
  unfold thermal_heat
  rw [Bool.eq_iff_iff]
  split
  · rename_i h
    simp at h ⊢
    omega
  · rename_i h
    simp at h ⊢
    omega
theorem refRight_eq (r : Rep) : spileref15_Right r.d r.p r.h r.s r.vl r.vh r.al r.ah = okR r := by
  unfold spileref15_Right okR gauge_Right
  rw [reading_eq]
  cases spileref15_IsReading r.d r.p r.h r.s with
  | false => rfl
  | true =>
    have e : spileref15_times r.vl r.vh r.s = gauge_times r.vl r.vh r.s := rfl
    rw [e]
    by_cases h1 : r.vl ≥ 0
    · by_cases h2 : r.vl ≤ r.vh
      · by_cases h3 : r.vh ≤ 34359738368
        · rw [if_neg (by simp; omega), decide_eq_true h1, decide_eq_true h2, decide_eq_true h3]
          rfl
        · rw [if_pos (by simp; omega), decide_eq_false h3]
          simp
      · rw [if_pos (by simp; omega), decide_eq_false h2]
        simp
    · rw [if_pos (by simp; omega), decide_eq_false h1]
      simp
theorem refRight_any (r : Rep) (w : World) : Calls Try.prog 28 #[Rep.v r] w fun e w' => e = .returned (.bool (okR r)) ∧ Below w.heap.size w w' := by
  have := spileref15_Right_any r.d r.p r.h r.s r.vl r.vh r.al r.ah w
  rw [refRight_eq] at this
  exact this
theorem all_of {α : Type} {q : α → Bool} {l : List α} {d : α} (h : ∀ j, j < l.length → q (l.getD j d) = true) : l.all q = true := by
  rw [List.all_eq_true]
  intro x hx
  obtain ⟨i, hi, rfl⟩ := List.mem_iff_getElem.1 hx
  have := h i hi
  rwa [List.getD_eq_getElem?_getD, List.getElem?_eq_getElem hi] at this
theorem all_not {α : Type} {q : α → Bool} {l : List α} {d : α} {k : Nat} (hk : k < l.length) (h : q (l.getD k d) = false) : l.all q = false := by
  cases ha : l.all q with
  | false => rfl
  | true => rw [List.all_eq_true] at ha; rw [ha _ (getD_mem hk)] at h; cases h
theorem take_foldl {α β : Type} (f : β → α → β) (b : β) (l : List α) (d : α) (k : Nat) (hk : k < l.length) : (l.take (k + 1)).foldl f b = f ((l.take k).foldl f b) (l.getD k d) := by
  rw [List.take_succ_eq_append_getElem hk, List.foldl_append, List.getD_eq_getElem?_getD, List.getElem?_eq_getElem hk]
  rfl
theorem refTotal_any (A : Option Addr) (c : Nat) (l : List Rep) (w : World) (hl : RdRow w A l.length 8 (elR l)) (hm : l.length ≤ 4611686018427387904) :
    Calls Try.prog 24 #[.slice A l.length c] w fun e w' => e = .returned (B5 (tot5 l)) ∧ Below w.heap.size w w' := by
  refine enterPlain tfine Try.func24 rfl 71 Try.ntmps24 [.c (.inp 1000 A l.length c)] [⟨1000, A, 8, l.length, elR l⟩] rfl rfl ⟨hl, trivial⟩ ⟨.inl ⟨rfl, rfl, rfl⟩, trivial⟩ ?_
  refine G.seqR tfine rfl trivial ?_
  refine G.seq (G.seqR tfine rfl trivial ?_)
  refine G.cond rfl (fun h2 => ?_) (fun h2 => ?_)
  · refine G.seqR tfine rfl trivial ?_
    refine G.ret (endK.ret rfl ?_)
    rw [tot5, if_pos h2]; rfl
  refine G.skip ?_
  refine G.seqR tfine rfl trivial ?_
  refine G.seq (G.seqR tfine rfl trivial ?_)
  refine G.block (G.loop (fun k : Nat => St.of [(0, .v (.c (.inp 1000 A l.length c))), (2, .v (.c (.ptr 2 0 0 0))), (3, .v (.c (.ptr 3 0 0 0))), (4, .v (.c (.k (I 0)))), (5, .v (.c (.ptr 5 0 0 0))), (6, .v (.c (.ptr 6 0 0 0))), (7, .v (.c (.k (I k))))]
      [(2, .var 30 [.k (I 0), .k (I 0)]), (3, .var 30 [.k (I 0), .k (I 0)]), (5, .var 30 [.k (I ((l.take k).foldl aV (0, 0)).1), .k (I ((l.take k).foldl aV (0, 0)).2)]), (6, .var 30 [.k (I ((l.take k).foldl aA (0, 0)).1), .k (I ((l.take k).foldl aA (0, 0)).2)]), (1000, .ro 8 l.length (elR l))])
    (fun k => k ≤ l.length ∧ ∀ j, j < k → okR (l.getD j rep0) = true) (fun k => l.length - k) 0 ⟨by omega, fun j h5 => by omega⟩
    (St.le_of rfl ⟨⟨_, rfl, Blk.le_refl _⟩, ⟨_, rfl, Blk.le_refl _⟩, ⟨_, rfl, Blk.le_refl _⟩, ⟨_, rfl, Blk.le_refl _⟩, ⟨_, rfl, Blk.le_refl _⟩, trivial⟩ ⟨rfl, rfl, rfl, rfl, rfl, rfl, rfl, trivial⟩) ?_)
  rintro k ⟨hk2, hpre⟩
  refine G.seq (G.seqR tfine rfl trivial ?_)
  refine G.cond rfl (fun h => ?_) (fun h => ?_)
  rotate_left
  · have h := of_decide_eq_false h
    have : k = l.length := by omega
    subst this
    refine G.exit ?_
    refine G.seqD tfine hmix [0, 0, 1, 7, 15] [(2, 2), (3, 3)] rfl rfl rfl rfl trivial ?_
    refine G.ret (endK.ret rfl ?_)
    rw [tot5, if_neg (fne h2), if_neg (by rw [all_of hpre]; simp), List.take_length]; rfl
  have h := of_decide_eq_true h
  have hlt : k < l.length := by omega
  refine G.skip ?_
  refine G.seq (G.block ?_)
  refine G.seq (G.seqC tfine rfl ?_ ?_)
  · simp [AllP]; omega
  rw [Int.toNat_natCast]
  refine GO.callPlain (v := .bool (okR (l.getD k rep0))) rfl rfl rfl rfl (fun args w => Try.call28 args w) (fun ρ w hm _ => refRight_any (l.getD k rep0) w) ?_
  refine GO.fin tfine rfl trivial ?_
  refine G.cond rfl (fun h3 => ?_) (fun h3 => ?_)
  · refine G.seqR tfine rfl trivial ?_
    refine G.ret (endK.ret rfl ?_)
    rw [tot5, if_neg (fne h2), if_pos (by rw [all_not hlt (by simpa using h3)]; rfl)]; rfl
  refine G.skip ?_
  refine G.seqD tfine hmix [0, 1, 0, 0, 12, 28, 60, 124, 255, 0, 512, 0, 0, 6144, 14336, 30720, 63488, 130560, 2047, 264191, 1048575, 2097151] [(19, 5), (21, 5)] rfl rfl rfl rfl ?_ ?_
  · simp [AllP]; omega
  rw [Int.toNat_natCast]
  refine G.regD tfine hmix [0, 1, 0, 0, 12, 28, 60, 124, 255, 0, 512, 0, 0, 6144, 14336, 30720, 63488, 130560, 2047, 264191, 1048575, 2097151] [(19, 6), (21, 6)] rfl rfl rfl rfl ?_ ?_
  · simp [AllP]; omega
  rw [Int.toNat_natCast]
  refine G.reg tfine rfl trivial ?_
  rw [IntWalk.i64_in ((k : Int) + 1) (by omega)]
  have e1 := take_foldl aV (0, 0) l rep0 k hlt
  have e2 := take_foldl aA (0, 0) l rep0 k hlt
  refine ⟨k + 1, ⟨hlt, fun j h8 => ?_⟩, (by show l.length - (k + 1) < l.length - k; omega), ?_⟩
  · by_cases e : j = k
    · rw [e]; simpa using h3
    · exact hpre j (by omega)
  · simp only [e1, e2]
    exact St.le_of rfl ⟨⟨_, rfl, Blk.le_refl _⟩, ⟨_, rfl, Blk.le_refl _⟩, ⟨_, rfl, Blk.le_refl _⟩, ⟨_, rfl, Blk.le_refl _⟩, ⟨_, rfl, Blk.le_refl _⟩, trivial⟩ ⟨rfl, rfl, rfl, rfl, rfl, rfl, rfl, trivial⟩
/-! ### The bounds together: alcohol is volume times strength -/
theorem meet_eq (a b : Int × Int) : meet a b = (if b.1 > a.1 then b.1 else a.1, if b.2 < a.2 then b.2 else a.2) := rfl
theorem okR_facts {r : Rep} (h : okR r = true) : (0 ≤ r.s ∧ r.s ≤ 10000) ∧ 0 ≤ r.vl ∧ r.vl ≤ r.vh ∧ r.vh ≤ 34359738368 ∧ r.al = r.vl * r.s ∧ r.ah = r.vh * r.s := by
  unfold okR gauge_Right at h
  rw [reading_eq] at h
  simp only [Bool.and_eq_true, decide_eq_true_eq, beq_iff_eq] at h
  obtain ⟨⟨⟨⟨h1, h2⟩, h3⟩, h4⟩, h5, h6⟩ := h
  have hs : 0 ≤ r.s ∧ r.s ≤ 10000 := by
    unfold spileref15_IsReading at h1
    simp at h1
    omega
  have m1 : 0 ≤ r.vl * r.s := Int.mul_nonneg h2 hs.1
  have m2 : r.vl * r.s ≤ r.vh * r.s := Int.mul_le_mul_of_nonneg_right h3 hs.1
  have m3 : r.vh * r.s ≤ 34359738368 * 10000 := Int.mul_le_mul h4 hs.2 hs.1 (by decide)
  unfold gauge_times at h5 h6
  rw [IntWalk.i64_in (r.vl * r.s) (by omega)] at h5
  rw [IntWalk.i64_in (r.vh * r.s) (by omega)] at h6
  exact ⟨hs, h2, h3, h4, h5, h6⟩
theorem fold_times (l : List Rep) (s : Int) (hs : 0 ≤ s) : ∀ (v : Int × Int), (∀ r ∈ l, r.s = s ∧ okR r = true) → l.foldl mA (v.1 * s, v.2 * s) = ((l.foldl mV v).1 * s, (l.foldl mV v).2 * s) := by
  induction l with
  | nil => intro v _; rfl
  | cons r l ih =>
    intro v h
    obtain ⟨e, ho⟩ := h r (by simp)
    have hf := okR_facts ho
    rw [e] at hf
    have hstep : mA (v.1 * s, v.2 * s) r = ((mV v r).1 * s, (mV v r).2 * s) := by
      simp only [mA, mV, meet_eq, alc, vol]
      rw [hf.2.2.2.2.1, hf.2.2.2.2.2]
      refine Prod.ext ?_ ?_
      · simp only
        by_cases h1 : r.vl > v.1
        · rw [if_pos h1]
          by_cases h2 : r.vl * s > v.1 * s
          · rw [if_pos h2]
          · rw [if_neg h2]
            have := Int.mul_le_mul_of_nonneg_right (show v.1 ≤ r.vl by omega) hs
            omega
        · rw [if_neg h1, if_neg]
          have := Int.mul_le_mul_of_nonneg_right (show r.vl ≤ v.1 by omega) hs
          omega
      · simp only
        by_cases h1 : r.vh < v.2
        · rw [if_pos h1]
          by_cases h2 : r.vh * s < v.2 * s
          · rw [if_pos h2]
          · rw [if_neg h2]
            have := Int.mul_le_mul_of_nonneg_right (show r.vh ≤ v.2 by omega) hs
            omega
        · rw [if_neg h1, if_neg]
          have := Int.mul_le_mul_of_nonneg_right (show v.2 ≤ r.vh by omega) hs
          omega
    rw [List.foldl_cons, List.foldl_cons, hstep, ih _ fun x hx => h x (by simp [hx])]
theorem fold_bd (l : List Rep) : ∀ (v : Int × Int), (0 ≤ v.1 ∧ v.1 ≤ 34359738368) → (0 ≤ v.2 ∧ v.2 ≤ 34359738368) → (∀ r ∈ l, okR r = true) → (0 ≤ (l.foldl mV v).1 ∧ (l.foldl mV v).1 ≤ 34359738368) ∧ (0 ≤ (l.foldl mV v).2 ∧ (l.foldl mV v).2 ≤ 34359738368) := by
  induction l with
  | nil => intro v h1 h2 _; exact ⟨h1, h2⟩
  | cons r l ih =>
    intro v h1 h2 h
    have hf := okR_facts (h r (by simp))
    rw [List.foldl_cons]
    refine ih _ ?_ ?_ fun x hx => h x (by simp [hx])
    · simp only [mV, meet_eq, vol]
      split <;> omega
    · simp only [mV, meet_eq, vol]
      split <;> omega
end Go.Proofs.Ytiicemgngccicaa
