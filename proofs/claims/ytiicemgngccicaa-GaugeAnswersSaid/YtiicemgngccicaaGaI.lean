/- Chapter 15: the reference's Together; copies; the examples of the chapter. -/
import Derived.Test.YtiicemgngccicaaGaH
import Derived.Test.YtiicemgngccicaaSxY
set_option linter.unusedVariables false
set_option linter.unusedSimpArgs false
set_option maxRecDepth 8000
set_option maxHeartbeats 1000000
namespace Go.Proofs.Ytiicemgngccicaa
open Go.Sx Go.RowKit
theorem refTogether_any (A : Option Addr) (c : Nat) (l : List Rep) (w : World) (hl : RdRow w A l.length 8 (elR l)) (hm : l.length ≤ 4611686018427387904) :
    Calls Try.prog 22 #[.slice A l.length c] w fun e w' => e = .returned (B5 (tog5 l)) ∧ Below w.heap.size w w' := by
  refine enterPlain tfine Try.func22 rfl 105 Try.ntmps22 [.c (.inp 1000 A l.length c)] [⟨1000, A, 8, l.length, elR l⟩] rfl rfl ⟨hl, trivial⟩ ⟨.inl ⟨rfl, rfl, rfl⟩, trivial⟩ ?_
  refine G.seqR tfine rfl trivial ?_
  refine G.seq (G.seqR tfine rfl trivial ?_)
  refine G.cond rfl (fun h1 => ?_) (fun h1 => ?_)
  · refine G.seqR tfine rfl trivial ?_
    refine G.ret (endK.ret rfl ?_)
    rw [tog5, if_pos h1]; rfl
  refine G.skip ?_
  refine G.seq (G.seqR tfine rfl trivial ?_)
  refine G.cond rfl (fun h2 => ?_) (fun h2 => ?_)
  · refine G.seqR tfine rfl trivial ?_
    refine G.ret (endK.ret rfl ?_)
    rw [tog5, if_neg (fne h1), if_pos h2]; rfl
  refine G.skip ?_
  have h0 : 0 < l.length := by
    have : l.length ≠ 0 := by simpa using h1
    omega
  have h2' := of_decide_eq_false h2
  refine G.seq (G.seqR tfine rfl trivial ?_)
  refine G.block (G.loop (fun k : Nat => St.of [(0, .v (.c (.inp 1000 A l.length c))), (2, .v (.c (.ptr 2 0 0 0))), (3, .v (.c (.ptr 3 0 0 0))), (4, .v (.c (.k (I 0)))), (5, .v (.c (.k (I k))))]
      [(2, .var 30 [.k (I 0), .k (I 0)]), (3, .var 30 [.k (I 0), .k (I 0)]), (1000, .ro 8 l.length (elR l))])
    (fun k => k ≤ l.length ∧ ∀ j, j < k → okR (l.getD j rep0) = true) (fun k => l.length - k) 0 ⟨by omega, fun j h5 => by omega⟩
    (St.le_of rfl ⟨⟨_, rfl, Blk.le_refl _⟩, ⟨_, rfl, Blk.le_refl _⟩, ⟨_, rfl, Blk.le_refl _⟩, trivial⟩ ⟨rfl, rfl, rfl, rfl, rfl, trivial⟩) ?_)
  rintro k ⟨hk2, hpre⟩
  refine G.seq (G.seqR tfine rfl trivial ?_)
  refine G.cond rfl (fun h => ?_) (fun h => ?_)
  · have h := of_decide_eq_true h
    have hlt : k < l.length := by omega
    refine G.skip ?_
    refine G.seq (G.block ?_)
    refine G.seqC tfine rfl ?_ ?_
    · simp [AllP]; omega
    rw [Int.toNat_natCast]
    refine GO.callPlain (v := .bool (okR (l.getD k rep0))) rfl rfl rfl rfl (fun args w => Try.call28 args w) (fun ρ w hm _ => refRight_any (l.getD k rep0) w) ?_
    refine GO.fin tfine rfl trivial ?_
    refine G.cond rfl (fun h3 => ?_) (fun h3 => ?_)
    · refine G.seqR tfine rfl trivial ?_
      refine G.ret (endK.ret rfl ?_)
      rw [tog5, if_neg (fne h1), if_neg (fne h2), if_pos (by rw [all_not hlt (by simpa using h3)]; rfl)]; rfl
    refine G.skip ?_
    refine G.reg tfine rfl trivial ?_
    rw [IntWalk.i64_in ((k : Int) + 1) (by omega)]
    refine ⟨k + 1, ⟨hlt, fun j h8 => ?_⟩, (by show l.length - (k + 1) < l.length - k; omega), St.le_of rfl ⟨⟨_, rfl, Blk.le_refl _⟩, ⟨_, rfl, Blk.le_refl _⟩, ⟨_, rfl, Blk.le_refl _⟩, trivial⟩ ⟨rfl, rfl, rfl, rfl, rfl, trivial⟩⟩
    by_cases e : j = k
    · rw [e]; simpa using h3
    · exact hpre j (by omega)
  have h := of_decide_eq_false h
  have hall : l.all okR = true := all_of (d := rep0) fun j hj => hpre j (by omega)
  have h3 : ¬ (!(l.all okR)) = true := by rw [hall]; simp
  refine G.exit ?_
  refine G.seqR tfine rfl ?_ ?_
  · simp [AllP]; omega
  have hmm : ∀ x : Int × Int, meet x x = x := fun x => by rw [meet_eq]; simp
  have first : (l.take 1).foldl mV (vol (l.getD 0 rep0)) = vol (l.getD 0 rep0) := by
    rw [take_foldl mV _ l rep0 0 h0]
    exact hmm _
  refine G.seq (G.seqR tfine rfl trivial ?_)
  refine G.block (G.loop (fun k : Nat => St.of [(0, .v (.c (.inp 1000 A l.length c))), (2, .v (.c (.ptr 2 0 0 0))), (3, .v (.c (.ptr 3 0 0 0))), (4, .v (.c (.k (I 0)))), (6, .v (.c (.ptr 6 0 0 0))), (7, .v (.c (.k (I k))))]
      [(2, .var 30 [.k (I 0), .k (I 0)]), (3, .var 30 [.k (I 0), .k (I 0)]), (6, .var 30 [.k (I ((l.take k).foldl mV (vol (l.getD 0 rep0))).1), .k (I ((l.take k).foldl mV (vol (l.getD 0 rep0))).2)]), (1000, .ro 8 l.length (elR l))])
    (fun k => 1 ≤ k ∧ k ≤ l.length ∧ ∀ j, j < k → mis l (l.getD j rep0) = false) (fun k => l.length - k) 1 ⟨Nat.le_refl _, h0, fun j h5 => ?_⟩ ?_ ?_)
  · have : j = 0 := by omega
    subst this
    simp [mis]
  · simp only [first]
    exact St.le_of rfl ⟨⟨_, rfl, Blk.le_refl _⟩, ⟨_, rfl, Blk.le_refl _⟩, ⟨_, rfl, Blk.le_refl _⟩, ⟨_, rfl, Blk.le_refl _⟩, trivial⟩ ⟨rfl, rfl, rfl, rfl, rfl, rfl, trivial⟩
  rintro k ⟨hk1, hk2, hpre⟩
  refine G.seq (G.seqR tfine rfl trivial ?_)
  refine G.cond rfl (fun h => ?_) (fun h => ?_)
  · have h := of_decide_eq_true h
    have hlt : k < l.length := by omega
    refine G.skip ?_
    refine G.seq (G.block ?_)
    refine G.seq (G.seqD tfine hmix [0, 0, 3, 7, 15, 31, 0, 64, 192, 448, 960, 2047, 4095, 8191, 8191, 32767, 65535, 131071, 262143, 8191, 532479, 1581055, 3678207, 7872511, 16777215, 33554431] [] rfl rfl rfl rfl ?_ ?_)
    · simp [AllP, condB]; omega
    rw [Int.toNat_natCast]
    refine G.cond (b := mis l (l.getD k rep0)) rfl (fun h4 => ?_) (fun h4 => ?_)
    · refine G.seqR tfine rfl trivial ?_
      refine G.ret (endK.ret rfl ?_)
      rw [tog5, if_neg (fne h1), if_neg (fne h2), if_neg h3, if_pos (any_of_true hlt h4)]; rfl
    refine G.skip ?_
    refine G.regD tfine hmix [0, 1, 0, 0, 12, 28, 60, 124, 255, 0, 512, 0, 0, 6144, 14336, 30720, 63488, 130560, 2047, 264191, 1048575, 2097151] [(19, 6), (21, 6)] rfl rfl rfl rfl ?_ ?_
    · simp [AllP]; omega
    rw [Int.toNat_natCast]
    refine G.reg tfine rfl trivial ?_
    rw [IntWalk.i64_in ((k : Int) + 1) (by omega)]
    have e1 := take_foldl mV (vol (l.getD 0 rep0)) l rep0 k hlt
    refine ⟨k + 1, ⟨by omega, hlt, fun j h8 => ?_⟩, (by show l.length - (k + 1) < l.length - k; omega), ?_⟩
    · by_cases e : j = k
      · rw [e]; exact h4
      · exact hpre j (by omega)
    · simp only [e1]
      exact St.le_of rfl ⟨⟨_, rfl, Blk.le_refl _⟩, ⟨_, rfl, Blk.le_refl _⟩, ⟨_, rfl, Blk.le_refl _⟩, ⟨_, rfl, Blk.le_refl _⟩, trivial⟩ ⟨rfl, rfl, rfl, rfl, rfl, rfl, trivial⟩
  have h := of_decide_eq_false h
  have : k = l.length := by omega
  subst this
  have hany : l.any (mis l) = false := any_of_false (d := rep0) hpre
  have h4 : ¬ l.any (mis l) = true := by rw [hany]; simp
  rw [List.take_length]
  refine G.exit ?_
  refine G.seq (G.seqR tfine rfl trivial ?_)
  refine G.cond rfl (fun h5 => ?_) (fun h5 => ?_)
  · refine G.seqR tfine rfl trivial ?_
    refine G.ret (endK.ret rfl ?_)
    rw [tog5, if_neg (fne h1), if_neg (fne h2), if_neg h3, if_neg h4, if_pos h5]; rfl
  refine G.skip ?_
  rw [List.all_eq_true] at hall
  have f0 := okR_facts (hall _ (getD_mem (d := rep0) h0))
  have same : ∀ r ∈ l, r.s = (l.getD 0 rep0).s ∧ okR r = true := fun r hr => by
    have := List.any_eq_false.1 hany r hr
    simp only [mis, Bool.or_eq_true, bne_iff_ne, ne_eq, not_or, Decidable.not_not] at this
    exact ⟨this.1, hall r hr⟩
  have ht := fold_times l (l.getD 0 rep0).s f0.1.1 (vol (l.getD 0 rep0)) same
  have hb := fold_bd l (vol (l.getD 0 rep0)) ⟨f0.2.1, by show (l.getD 0 rep0).vl ≤ _; omega⟩ ⟨by show 0 ≤ (l.getD 0 rep0).vh; omega, f0.2.2.2.1⟩ hall
  have halc : alc (l.getD 0 rep0) = ((vol (l.getD 0 rep0)).1 * (l.getD 0 rep0).s, (vol (l.getD 0 rep0)).2 * (l.getD 0 rep0).s) := by
    unfold alc vol
    rw [f0.2.2.2.2.1, f0.2.2.2.2.2]
  rw [← halc] at ht
  refine G.seqDraw hmix [0, 0, 0, 4, 12, 28, 60, 126, 255, 511, 1023] [(8, 2), (9, 3)] rfl rfl rfl ?_
  refine GD.more tfine 0 rfl rfl ?_ ?_
  · simp [AllP]; omega
  refine GD.call (v := .agg #[I (spileref15_times (l.foldl mV (vol (l.getD 0 rep0))).1 (l.foldl mV (vol (l.getD 0 rep0))).2 (l.getD 0 rep0).s).1, I (spileref15_times (l.foldl mV (vol (l.getD 0 rep0))).1 (l.foldl mV (vol (l.getD 0 rep0))).2 (l.getD 0 rep0).s).2]) 7 rfl rfl rfl rfl rfl (fun args w => Try.call41 args w) (fun m _ ρ w _ _ => spileref15_times_any _ _ _ w) ?_
  refine GD.fin tfine 8 rfl rfl trivial ?_
  refine G.ret (endK.ret rfl ?_)
  rw [tog5, if_neg (fne h1), if_neg (fne h2), if_neg h3, if_neg h4, if_neg (fne h5), ht]
  have m1 : 0 ≤ (l.foldl mV (vol (l.getD 0 rep0))).1 * (l.getD 0 rep0).s := Int.mul_nonneg hb.1.1 f0.1.1
  have m2 : (l.foldl mV (vol (l.getD 0 rep0))).1 * (l.getD 0 rep0).s ≤ 34359738368 * 10000 := Int.mul_le_mul hb.1.2 f0.1.2 f0.1.1 (by decide)
  have m3 : 0 ≤ (l.foldl mV (vol (l.getD 0 rep0))).2 * (l.getD 0 rep0).s := Int.mul_nonneg hb.2.1 f0.1.1
  have m4 : (l.foldl mV (vol (l.getD 0 rep0))).2 * (l.getD 0 rep0).s ≤ 34359738368 * 10000 := Int.mul_le_mul hb.2.2 f0.1.2 f0.1.1 (by decide)
  unfold spileref15_times
  rw [IntWalk.i64_in _ (by omega), IntWalk.i64_in _ (by omega)]
  rfl
theorem apR : ApT Try.prog 47 36 8 64 (.agg #[I 0, I 0, I 0, I 0, I 0, I 0, I 0, I 0]) := ⟨by kernel_rfl, by kernel_rfl, rfl, by decide⟩
theorem cloneR_any (A : Option Addr) (c : Nat) (l : List Rep) (w : World) (hl : RdRow w A l.length 8 (elR l)) (hm : l.length ≤ maxLen) (hy : l.length * 64 ≤ 140737488355328) (hA : A = none → l.length = 0) :
    Calls Try.prog 21 #[.slice A l.length c] w fun e w' => ∃ A' c', e = .returned (.slice A' l.length c') ∧ RdNew w w' A' l.length 8 (elR l) ∧ Below w.heap.size w w' := by
  refine enterRow tfine l.length 8 (elR l) Try.func21 rfl 8 Try.ntmps21 [.c (.inp 1000 A l.length c)] [⟨1000, A, 8, l.length, elR l⟩] rfl rfl ⟨hl, trivial⟩ ⟨.inl ⟨rfl, rfl, rfl⟩, trivial⟩ ?_
  refine G.seqR tfine rfl trivial ?_
  refine G.seq (G.seqR tfine rfl trivial ?_)
  refine G.cond rfl (fun h => ?_) (fun h => ?_)
  · refine G.seqR tfine rfl trivial ?_
    have : A = none := by cases A <;> simp at h ⊢
    refine G.ret (endRow.ret rfl ⟨(hA this).symm, hA this⟩)
  refine G.skip ?_
  refine G.seqC tfine rfl trivial ?_
  refine GO.emptySlice tfine rfl rfl rfl rfl rfl rfl rfl fun A0 => ?_
  refine GO.more tfine rfl trivial ?_
  refine GO.appendNew (elR l) apR rfl rfl rfl rfl rfl rfl rfl rfl (RowOf.ro rfl) (fun k hk => rfl) (fun i hi u hu => by simp [elR] at hu; rcases hu with rfl | rfl | rfl | rfl | rfl | rfl | rfl | rfl <;> rfl) hm hy (fun h0 => ?_) fun h0 c' hc' => ?_
  · refine GO.fin tfine rfl trivial ?_
    exact G.ret (endRow.ret rfl ⟨h0.symm, h0⟩)
  · refine GO.fin tfine rfl trivial ?_
    exact G.ret (endRow.ret rfl ⟨rfl, rfl, rfl, by simp, fun i hi => by simp⟩)
def stepsL : List (Int × Int) := [(0, 0), (10, 100), (20, 250)]
theorem steps_any (w : World) : Calls Try.prog 31 #[] w fun e w' => ∃ A c, e = .returned (.agg (Value.slice A 3 c :: [I 2]).toArray) ∧ RdNew w w' A 3 2 (elM stepsL) ∧ Below w.heap.size w w' := by
  refine enterTab tfine 3 2 (elM stepsL) [I 2] Try.func31 rfl 6 Try.ntmps31 [] [] rfl rfl trivial trivial ?_
  refine G.seqR tfine rfl trivial ?_
  refine G.seqR tfine rfl trivial ?_
  refine G.ret (endTab.ret rfl ⟨rfl, rfl, rfl, [I 0, I 0, I 10, I 100, I 20, I 250], rfl, by decide, fun i hi => ?_⟩)
  rcases (show i = 0 ∨ i = 1 ∨ i = 2 by omega) with rfl | rfl | rfl <;> rfl
end Go.Proofs.Ytiicemgngccicaa
