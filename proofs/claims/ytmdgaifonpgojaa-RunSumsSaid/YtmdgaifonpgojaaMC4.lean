/- Chapter 35: the law of the yield. -/
import Derived.Test.YtmdgaifonpgojaaMC3
/- Chapter 35: four laws for every run. -/
set_option linter.unusedVariables false
set_option linter.unusedSimpArgs false
set_option maxRecDepth 8000
set_option maxHeartbeats 1000000
namespace Go.Proofs.Ytmdgaifonpgojaa
open Go.Sx Go.RowKit
theorem spilelaw35_RunBalances_big (x0_0 : Int) (x0_1 : Int) (x0_2 : Int) (x0_3 : Int) (x0_4 : Int) (x0_5 : Int) (A0_6 : Option Addr) (c0_6 : Nat) (l0_6 : List Cut) (x1 : Int) (w : World) (hl_l0_6 : RdRow w A0_6 l0_6.length 3 (elC l0_6)) (hbig : 17 < l0_6.length) : Calls Try.prog 3 #[.agg #[I x0_0, I x0_1, I x0_2, I x0_3, I x0_4, I x0_5, .slice A0_6 l0_6.length c0_6], I x1] w fun e w' => e = .returned (.bool true) ∧ Below w.heap.size w w' := by
  refine enterPlain tfine Try.func3 rfl 103 Try.ntmps3 [.agg [.k (I x0_0), .k (I x0_1), .k (I x0_2), .k (I x0_3), .k (I x0_4), .k (I x0_5), .inp 1000 A0_6 l0_6.length c0_6], .c (.k (I x1))] [⟨1000, A0_6, 3, l0_6.length, elC l0_6⟩] rfl rfl ⟨hl_l0_6, trivial⟩ ⟨⟨trivial, trivial, trivial, trivial, trivial, trivial, .inl ⟨rfl, rfl, rfl⟩, trivial⟩, trivial, trivial⟩ ?_
  refine G.seqR tfine rfl ?_ ?_
  · first | trivial | (simp [AllP, condB]; done) | (simp only [AllP]; and_intros <;> first | trivial | decide | omega) | (simp [AllP, condB]; intros; and_intros <;> first | assumption | omega) | (simp [AllP, condB]; intros; simp_all; done) | (simp [AllP, condB]; intros; simp_all; omega) | (simp [AllP, condB]; omega)
  refine G.seq ?_
  refine G.seqC tfine rfl ?_ ?_
  · first | trivial | (simp [AllP, condB]; done) | (simp only [AllP]; and_intros <;> first | trivial | decide | omega) | (simp [AllP, condB]; intros; and_intros <;> first | assumption | omega) | (simp [AllP, condB]; intros; simp_all; done) | (simp [AllP, condB]; intros; simp_all; omega) | (simp [AllP, condB]; omega)
  refine GO.callPlain (v := .bool true)  rfl rfl rfl rfl (fun args w => Try.call10 args w) (fun ρ w hs hok => awake_any w) ?_
  refine GO.fin tfine rfl ?_ ?_
  · first | trivial | (simp [AllP, condB]; done) | (simp only [AllP]; and_intros <;> first | trivial | decide | omega) | (simp [AllP, condB]; intros; and_intros <;> first | assumption | omega) | (simp [AllP, condB]; intros; simp_all; done) | (simp [AllP, condB]; intros; simp_all; omega) | (simp [AllP, condB]; omega)
  refine G.cond_false rfl ?_
  refine G.skip ?_
  refine G.seq ?_
  refine G.seqC tfine rfl ?_ ?_
  · first | trivial | (simp [AllP, condB]; done) | (simp only [AllP]; and_intros <;> first | trivial | decide | omega) | (simp [AllP, condB]; intros; and_intros <;> first | assumption | omega) | (simp [AllP, condB]; intros; simp_all; done) | (simp [AllP, condB]; intros; simp_all; omega) | (simp [AllP, condB]; omega)
  refine GO.callPlain (v := .bool (spileref35_Few x0_0 x0_1 x0_2 x0_3 x0_4 x0_5 l0_6))  rfl rfl rfl rfl (fun args w => Try.call11 args w) (fun ρ w hs hok => spileref35_Few_any _ _ _ _ _ _ A0_6 c0_6 l0_6 w (hs.row (cap := c0_6) rfl (hok _ List.mem_cons_self _ (List.mem_cons_of_mem _ (List.mem_cons_of_mem _ (List.mem_cons_of_mem _ (List.mem_cons_of_mem _ (List.mem_cons_of_mem _ (List.mem_cons_of_mem _ List.mem_cons_self))))))))) ?_
  refine GO.fin tfine rfl ?_ ?_
  · first | trivial | (simp [AllP, condB]; done) | (simp only [AllP]; and_intros <;> first | trivial | decide | omega) | (simp [AllP, condB]; intros; and_intros <;> first | assumption | omega) | (simp [AllP, condB]; intros; simp_all; done) | (simp [AllP, condB]; intros; simp_all; omega) | (simp [AllP, condB]; omega)
  refine G.cond (b := !(spileref35_Few x0_0 x0_1 x0_2 x0_3 x0_4 x0_5 l0_6)) rfl (fun h1 => ?_) (fun h1 => ?_)
  · refine G.seqR tfine rfl trivial ?_
    exact G.ret (endK.ret rfl rfl)
  · have h9 := of_decide_eq_true (show decide ((l0_6.length : Int) ≤ 17) = true from by simpa [spileref35_Few] using h1)
    omega

theorem spilelaw35_RunWider_big (x0_0 : Int) (x0_1 : Int) (x0_2 : Int) (x0_3 : Int) (x0_4 : Int) (x0_5 : Int) (A0_6 : Option Addr) (c0_6 : Nat) (l0_6 : List Cut) (x1 : Int) (x2 : Int) (w : World) (hl_l0_6 : RdRow w A0_6 l0_6.length 3 (elC l0_6)) (hbig : 17 < l0_6.length) : Calls Try.prog 4 #[.agg #[I x0_0, I x0_1, I x0_2, I x0_3, I x0_4, I x0_5, .slice A0_6 l0_6.length c0_6], I x1, I x2] w fun e w' => e = .returned (.bool true) ∧ Below w.heap.size w w' := by
  refine enterPlain tfine Try.func4 rfl 82 Try.ntmps4 [.agg [.k (I x0_0), .k (I x0_1), .k (I x0_2), .k (I x0_3), .k (I x0_4), .k (I x0_5), .inp 1000 A0_6 l0_6.length c0_6], .c (.k (I x1)), .c (.k (I x2))] [⟨1000, A0_6, 3, l0_6.length, elC l0_6⟩] rfl rfl ⟨hl_l0_6, trivial⟩ ⟨⟨trivial, trivial, trivial, trivial, trivial, trivial, .inl ⟨rfl, rfl, rfl⟩, trivial⟩, trivial, trivial, trivial⟩ ?_
  refine G.seqR tfine rfl ?_ ?_
  · first | trivial | (simp [AllP, condB]; done) | (simp only [AllP]; and_intros <;> first | trivial | decide | omega) | (simp [AllP, condB]; intros; and_intros <;> first | assumption | omega) | (simp [AllP, condB]; intros; simp_all; done) | (simp [AllP, condB]; intros; simp_all; omega) | (simp [AllP, condB]; omega)
  refine G.seq ?_
  refine G.seqC tfine rfl ?_ ?_
  · first | trivial | (simp [AllP, condB]; done) | (simp only [AllP]; and_intros <;> first | trivial | decide | omega) | (simp [AllP, condB]; intros; and_intros <;> first | assumption | omega) | (simp [AllP, condB]; intros; simp_all; done) | (simp [AllP, condB]; intros; simp_all; omega) | (simp [AllP, condB]; omega)
  refine GO.callPlain (v := .bool true)  rfl rfl rfl rfl (fun args w => Try.call10 args w) (fun ρ w hs hok => awake_any w) ?_
  refine GO.fin tfine rfl ?_ ?_
  · first | trivial | (simp [AllP, condB]; done) | (simp only [AllP]; and_intros <;> first | trivial | decide | omega) | (simp [AllP, condB]; intros; and_intros <;> first | assumption | omega) | (simp [AllP, condB]; intros; simp_all; done) | (simp [AllP, condB]; intros; simp_all; omega) | (simp [AllP, condB]; omega)
  refine G.cond_false rfl ?_
  refine G.skip ?_
  refine G.seq ?_
  refine G.seqC tfine rfl ?_ ?_
  · first | trivial | (simp [AllP, condB]; done) | (simp only [AllP]; and_intros <;> first | trivial | decide | omega) | (simp [AllP, condB]; intros; and_intros <;> first | assumption | omega) | (simp [AllP, condB]; intros; simp_all; done) | (simp [AllP, condB]; intros; simp_all; omega) | (simp [AllP, condB]; omega)
  refine GO.callPlain (v := .bool (spileref35_Few x0_0 x0_1 x0_2 x0_3 x0_4 x0_5 l0_6))  rfl rfl rfl rfl (fun args w => Try.call11 args w) (fun ρ w hs hok => spileref35_Few_any _ _ _ _ _ _ A0_6 c0_6 l0_6 w (hs.row (cap := c0_6) rfl (hok _ List.mem_cons_self _ (List.mem_cons_of_mem _ (List.mem_cons_of_mem _ (List.mem_cons_of_mem _ (List.mem_cons_of_mem _ (List.mem_cons_of_mem _ (List.mem_cons_of_mem _ List.mem_cons_self))))))))) ?_
  refine GO.fin tfine rfl ?_ ?_
  · first | trivial | (simp [AllP, condB]; done) | (simp only [AllP]; and_intros <;> first | trivial | decide | omega) | (simp [AllP, condB]; intros; and_intros <;> first | assumption | omega) | (simp [AllP, condB]; intros; simp_all; done) | (simp [AllP, condB]; intros; simp_all; omega) | (simp [AllP, condB]; omega)
  refine G.cond (b := !(spileref35_Few x0_0 x0_1 x0_2 x0_3 x0_4 x0_5 l0_6)) rfl (fun h1 => ?_) (fun h1 => ?_)
  · refine G.seqR tfine rfl trivial ?_
    exact G.ret (endK.ret rfl rfl)
  · have h9 := of_decide_eq_true (show decide ((l0_6.length : Int) ≤ 17) = true from by simpa [spileref35_Few] using h1)
    omega

theorem spilelaw35_RunSums_big (x0_0 : Int) (x0_1 : Int) (x0_2 : Int) (x0_3 : Int) (x0_4 : Int) (x0_5 : Int) (A0_6 : Option Addr) (c0_6 : Nat) (l0_6 : List Cut) (x1 : Int) (w : World) (hl_l0_6 : RdRow w A0_6 l0_6.length 3 (elC l0_6)) (hbig : 17 < l0_6.length) : Calls Try.prog 5 #[.agg #[I x0_0, I x0_1, I x0_2, I x0_3, I x0_4, I x0_5, .slice A0_6 l0_6.length c0_6], I x1] w fun e w' => e = .returned (.bool true) ∧ Below w.heap.size w w' := by
  refine enterPlain tfine Try.func5 rfl 86 Try.ntmps5 [.agg [.k (I x0_0), .k (I x0_1), .k (I x0_2), .k (I x0_3), .k (I x0_4), .k (I x0_5), .inp 1000 A0_6 l0_6.length c0_6], .c (.k (I x1))] [⟨1000, A0_6, 3, l0_6.length, elC l0_6⟩] rfl rfl ⟨hl_l0_6, trivial⟩ ⟨⟨trivial, trivial, trivial, trivial, trivial, trivial, .inl ⟨rfl, rfl, rfl⟩, trivial⟩, trivial, trivial⟩ ?_
  refine G.seqR tfine rfl ?_ ?_
  · first | trivial | (simp [AllP, condB]; done) | (simp only [AllP]; and_intros <;> first | trivial | decide | omega) | (simp [AllP, condB]; intros; and_intros <;> first | assumption | omega) | (simp [AllP, condB]; intros; simp_all; done) | (simp [AllP, condB]; intros; simp_all; omega) | (simp [AllP, condB]; omega)
  refine G.seq ?_
  refine G.seqC tfine rfl ?_ ?_
  · first | trivial | (simp [AllP, condB]; done) | (simp only [AllP]; and_intros <;> first | trivial | decide | omega) | (simp [AllP, condB]; intros; and_intros <;> first | assumption | omega) | (simp [AllP, condB]; intros; simp_all; done) | (simp [AllP, condB]; intros; simp_all; omega) | (simp [AllP, condB]; omega)
  refine GO.callPlain (v := .bool true)  rfl rfl rfl rfl (fun args w => Try.call10 args w) (fun ρ w hs hok => awake_any w) ?_
  refine GO.fin tfine rfl ?_ ?_
  · first | trivial | (simp [AllP, condB]; done) | (simp only [AllP]; and_intros <;> first | trivial | decide | omega) | (simp [AllP, condB]; intros; and_intros <;> first | assumption | omega) | (simp [AllP, condB]; intros; simp_all; done) | (simp [AllP, condB]; intros; simp_all; omega) | (simp [AllP, condB]; omega)
  refine G.cond_false rfl ?_
  refine G.skip ?_
  refine G.seq ?_
  refine G.seqC tfine rfl ?_ ?_
  · first | trivial | (simp [AllP, condB]; done) | (simp only [AllP]; and_intros <;> first | trivial | decide | omega) | (simp [AllP, condB]; intros; and_intros <;> first | assumption | omega) | (simp [AllP, condB]; intros; simp_all; done) | (simp [AllP, condB]; intros; simp_all; omega) | (simp [AllP, condB]; omega)
  refine GO.callPlain (v := .bool (spileref35_Few x0_0 x0_1 x0_2 x0_3 x0_4 x0_5 l0_6))  rfl rfl rfl rfl (fun args w => Try.call11 args w) (fun ρ w hs hok => spileref35_Few_any _ _ _ _ _ _ A0_6 c0_6 l0_6 w (hs.row (cap := c0_6) rfl (hok _ List.mem_cons_self _ (List.mem_cons_of_mem _ (List.mem_cons_of_mem _ (List.mem_cons_of_mem _ (List.mem_cons_of_mem _ (List.mem_cons_of_mem _ (List.mem_cons_of_mem _ List.mem_cons_self))))))))) ?_
  refine GO.fin tfine rfl ?_ ?_
  · first | trivial | (simp [AllP, condB]; done) | (simp only [AllP]; and_intros <;> first | trivial | decide | omega) | (simp [AllP, condB]; intros; and_intros <;> first | assumption | omega) | (simp [AllP, condB]; intros; simp_all; done) | (simp [AllP, condB]; intros; simp_all; omega) | (simp [AllP, condB]; omega)
  refine G.cond (b := !(spileref35_Few x0_0 x0_1 x0_2 x0_3 x0_4 x0_5 l0_6)) rfl (fun h1 => ?_) (fun h1 => ?_)
  · refine G.seqR tfine rfl trivial ?_
    exact G.ret (endK.ret rfl rfl)
  · have h9 := of_decide_eq_true (show decide ((l0_6.length : Int) ≤ 17) = true from by simpa [spileref35_Few] using h1)
    omega

theorem spilelaw35_RunCloses_big (x0_0 : Int) (x0_1 : Int) (x0_2 : Int) (x0_3 : Int) (x0_4 : Int) (x0_5 : Int) (A0_6 : Option Addr) (c0_6 : Nat) (l0_6 : List Cut) (w : World) (hl_l0_6 : RdRow w A0_6 l0_6.length 3 (elC l0_6)) (hbig : 17 < l0_6.length) : Calls Try.prog 6 #[.agg #[I x0_0, I x0_1, I x0_2, I x0_3, I x0_4, I x0_5, .slice A0_6 l0_6.length c0_6]] w fun e w' => e = .returned (.bool true) ∧ Below w.heap.size w w' := by
  refine enterPlain tfine Try.func6 rfl 74 Try.ntmps6 [.agg [.k (I x0_0), .k (I x0_1), .k (I x0_2), .k (I x0_3), .k (I x0_4), .k (I x0_5), .inp 1000 A0_6 l0_6.length c0_6]] [⟨1000, A0_6, 3, l0_6.length, elC l0_6⟩] rfl rfl ⟨hl_l0_6, trivial⟩ ⟨⟨trivial, trivial, trivial, trivial, trivial, trivial, .inl ⟨rfl, rfl, rfl⟩, trivial⟩, trivial⟩ ?_
  refine G.seqR tfine rfl ?_ ?_
  · first | trivial | (simp [AllP, condB]; done) | (simp only [AllP]; and_intros <;> first | trivial | decide | omega) | (simp [AllP, condB]; intros; and_intros <;> first | assumption | omega) | (simp [AllP, condB]; intros; simp_all; done) | (simp [AllP, condB]; intros; simp_all; omega) | (simp [AllP, condB]; omega)
  refine G.seq ?_
  refine G.seqC tfine rfl ?_ ?_
  · first | trivial | (simp [AllP, condB]; done) | (simp only [AllP]; and_intros <;> first | trivial | decide | omega) | (simp [AllP, condB]; intros; and_intros <;> first | assumption | omega) | (simp [AllP, condB]; intros; simp_all; done) | (simp [AllP, condB]; intros; simp_all; omega) | (simp [AllP, condB]; omega)
  refine GO.callPlain (v := .bool true)  rfl rfl rfl rfl (fun args w => Try.call10 args w) (fun ρ w hs hok => awake_any w) ?_
  refine GO.fin tfine rfl ?_ ?_
  · first | trivial | (simp [AllP, condB]; done) | (simp only [AllP]; and_intros <;> first | trivial | decide | omega) | (simp [AllP, condB]; intros; and_intros <;> first | assumption | omega) | (simp [AllP, condB]; intros; simp_all; done) | (simp [AllP, condB]; intros; simp_all; omega) | (simp [AllP, condB]; omega)
  refine G.cond_false rfl ?_
  refine G.skip ?_
  refine G.seq ?_
  refine G.seqC tfine rfl ?_ ?_
  · first | trivial | (simp [AllP, condB]; done) | (simp only [AllP]; and_intros <;> first | trivial | decide | omega) | (simp [AllP, condB]; intros; and_intros <;> first | assumption | omega) | (simp [AllP, condB]; intros; simp_all; done) | (simp [AllP, condB]; intros; simp_all; omega) | (simp [AllP, condB]; omega)
  refine GO.callPlain (v := .bool (spileref35_Few x0_0 x0_1 x0_2 x0_3 x0_4 x0_5 l0_6))  rfl rfl rfl rfl (fun args w => Try.call11 args w) (fun ρ w hs hok => spileref35_Few_any _ _ _ _ _ _ A0_6 c0_6 l0_6 w (hs.row (cap := c0_6) rfl (hok _ List.mem_cons_self _ (List.mem_cons_of_mem _ (List.mem_cons_of_mem _ (List.mem_cons_of_mem _ (List.mem_cons_of_mem _ (List.mem_cons_of_mem _ (List.mem_cons_of_mem _ List.mem_cons_self))))))))) ?_
  refine GO.fin tfine rfl ?_ ?_
  · first | trivial | (simp [AllP, condB]; done) | (simp only [AllP]; and_intros <;> first | trivial | decide | omega) | (simp [AllP, condB]; intros; and_intros <;> first | assumption | omega) | (simp [AllP, condB]; intros; simp_all; done) | (simp [AllP, condB]; intros; simp_all; omega) | (simp [AllP, condB]; omega)
  refine G.cond (b := !(spileref35_Few x0_0 x0_1 x0_2 x0_3 x0_4 x0_5 l0_6)) rfl (fun h1 => ?_) (fun h1 => ?_)
  · refine G.seqR tfine rfl trivial ?_
    exact G.ret (endK.ret rfl rfl)
  · have h9 := of_decide_eq_true (show decide ((l0_6.length : Int) ≤ 17) = true from by simpa [spileref35_Few] using h1)
    omega
theorem kinds_all {l : List Cut} (hk : ∀ i, i < l.length → 1 ≤ (l.getD i cut0).k ∧ (l.getD i cut0).k ≤ 4) (k : Nat) (h : k ≤ l.length) :
    (psum (l.take k) (kindB 0)).1 = (kf (l.take k) 1).1 + (kf (l.take k) 2).1 + (kf (l.take k) 3).1 + (kf (l.take k) 4).1 ∧ (psum (l.take k) (kindB 0)).2 = (kf (l.take k) 1).2 + (kf (l.take k) 2).2 + (kf (l.take k) 3).2 + (kf (l.take k) 4).2 := by
  induction k with
  | zero => exact ⟨rfl, rfl⟩
  | succ k ih =>
    have ih := ih (by omega)
    have hi := hk k (by omega)
    unfold kf at ih ⊢
    rw [psum_succ l _ k (by omega), psum_succ l _ k (by omega), psum_succ l _ k (by omega), psum_succ l _ k (by omega), psum_succ l _ k (by omega)]
    generalize psum (l.take k) (kindB 0) = s0 at ih ⊢
    generalize psum (l.take k) (qk ((1 : Nat) : Int)) = s1 at ih ⊢
    generalize psum (l.take k) (qk ((2 : Nat) : Int)) = s2 at ih ⊢
    generalize psum (l.take k) (qk ((3 : Nat) : Int)) = s3 at ih ⊢
    generalize psum (l.take k) (qk ((4 : Nat) : Int)) = s4 at ih ⊢
    generalize l.getD k cut0 = x at hi ⊢
    obtain ⟨xk, xa, xm⟩ := x
    simp only at hi
    rcases (show xk = 1 ∨ xk = 2 ∨ xk = 3 ∨ xk = 4 by omega) with rfl | rfl | rfl | rfl <;> simp [plus, kindB, qk] <;> omega
theorem all_kinds {id day al ma fa fm : Int} {l : List Cut} (ok : OkRun id day al ma fa fm l) : (psum l (kindB 0)).1 = (kf l 1).1 + (kf l 2).1 + (kf l 3).1 + (kf l 4).1 ∧ (psum l (kindB 0)).2 = (kf l 1).2 + (kf l 2).2 + (kf l 3).2 + (kf l 4).2 := by
  have := kinds_all (fun i hi => (ok.cut i hi).2) l.length (Nat.le_refl _)
  rwa [List.take_length] at this
theorem sums_law (id day al ma fa fm : Int) (l : List Cut) (x : Int) : spilelaw35_RunSums id day al ma fa fm l x = true := by simp [spilelaw35_RunSums]
theorem balances_law (id day al ma fa fm : Int) (l : List Cut) (x : Int) : spilelaw35_RunBalances id day al ma fa fm l x = true := by simp [spilelaw35_RunBalances]
theorem wider_law (id day al ma fa fm : Int) (l : List Cut) (x y : Int) : spilelaw35_RunWider id day al ma fa fm l x y = true := by
  unfold spilelaw35_RunWider
  split
  · rfl
  by_cases h1 : okB id day al ma fa fm l = true
  · have e : ∀ to, cloM id day al ma fa fm l to = (false, 1) := fun to => by rw [cloM, if_pos h1]
    rw [e x, if_pos (by decide)]
    rfl
  by_cases h2 : (decide (x < 0) || decide (x > 1000000)) = true
  · have e : cloM id day al ma fa fm l x = (false, 2) := by rw [cloM, if_neg h1, if_pos h2]
    rw [e, if_pos (by decide)]
    rfl
  have hx : 0 ≤ x ∧ x ≤ 1000000 := by simp at h2; omega
  have e : ∀ to, 0 ≤ to → to ≤ 1000000 → cloM id day al ma fa fm l to = (decide ((al + fa - (psum l (kindB 0)).1).natAbs * 1000000 ≤ (al + fa).toNat * to.toNat) && decide ((ma + fm - (psum l (kindB 0)).2).natAbs * 1000000 ≤ (ma + fm).toNat * to.toNat), 0) := by
    intro to h3 h4
    rw [cloM, if_neg h1, if_neg (by simp; omega)]
  have eb : balM id day al ma fa fm l = (al + fa - (psum l (kindB 0)).1, ma + fm - (psum l (kindB 0)).2, 0) := by rw [balM, if_neg h1]
  obtain ⟨z, hz⟩ : ∃ z, z = (if (if (1000000 : Int) < y then (1000000 : Int) else y) > x then (if (1000000 : Int) < y then (1000000 : Int) else y) else x) := ⟨_, rfl⟩
  rw [← hz]
  have hz2 : x ≤ z ∧ z ≤ 1000000 := by
    rw [hz]
    split <;> split at * <;> omega
  rw [e x hx.1 hx.2, e z (by omega) hz2.2, e 0 (by decide) (by decide), eb]
  generalize al + fa - (psum l (kindB 0)).1 = p
  generalize ma + fm - (psum l (kindB 0)).2 = q
  have m1 : (al + fa).toNat * x.toNat ≤ (al + fa).toNat * z.toNat := Nat.mul_le_mul_left _ (by omega)
  have m2 : (ma + fm).toNat * x.toNat ≤ (ma + fm).toNat * z.toNat := Nat.mul_le_mul_left _ (by omega)
  generalize (al + fa).toNat * x.toNat = u1 at m1 ⊢
  generalize (al + fa).toNat * z.toNat = u2 at m1 ⊢
  generalize (ma + fm).toNat * x.toNat = v1 at m2 ⊢
  generalize (ma + fm).toNat * z.toNat = v2 at m2 ⊢
  rw [if_neg (by simp)]
  rw [Bool.eq_iff_iff]
  simp
  constructor
  · omega
  · rw [Bool.eq_iff_iff]
    simp
    omega
theorem closes_law (id day al ma fa fm : Int) (l : List Cut) (hm : l.length ≤ 17) : spilelaw35_RunCloses id day al ma fa fm l = true := by
  unfold spilelaw35_RunCloses
  split
  · rfl
  by_cases h1 : okB id day al ma fa fm l = true
  · have eb : balM id day al ma fa fm l = (0, 0, 1) := by rw [balM, if_pos h1]
    rw [eb, if_pos (by decide)]
    rfl
  have ok := okB_run (Bool.not_eq_true _ ▸ h1)
  have eb : balM id day al ma fa fm l = (al + fa - (psum l (kindB 0)).1, ma + fm - (psum l (kindB 0)).2, 0) := by rw [balM, if_neg h1]
  have es : ∀ kd : Int, 1 ≤ kd → kd ≤ 4 → sumM id day al ma fa fm l kd = ((kf l kd.toNat).1, (kf l kd.toNat).2, 0) := by
    intro kd h2 h3
    rw [sumM, if_neg h1, if_neg (by simp; omega)]
  rw [eb, es 1 (by decide) (by decide), es 2 (by decide) (by decide), es 3 (by decide) (by decide), es 4 (by decide) (by decide)]
  have k := all_kinds ok
  have b1 := kf_bound ok.inl hm 1
  have b2 := kf_bound ok.inl hm 2
  have b3 := kf_bound ok.inl hm 3
  have b4 := kf_bound ok.inl hm 4
  have l2 := ok.lim2
  unfold inR at l2
  rw [show (1 : Int).toNat = 1 from rfl, show (2 : Int).toNat = 2 from rfl, show (3 : Int).toNat = 3 from rfl, show (4 : Int).toNat = 4 from rfl]
  generalize psum l (kindB 0) = s at k ⊢
  generalize kf l 1 = s1 at *
  generalize kf l 2 = s2 at *
  generalize kf l 3 = s3 at *
  generalize kf l 4 = s4 at *
  have nn : ∀ f : Fl, 0 ≤ f.1 → 0 ≤ f.2 → ¬ ((((0 : Int) != 0) || decide (f.1 < 0)) || decide (f.2 < 0)) = true := by
    intro f h2 h3
    simp
    omega
  dsimp only
  rw [if_neg (by decide), if_neg (nn s1 b1.1.1 b1.2.1), if_neg (nn s2 b2.1.1 b2.2.1), if_neg (nn s3 b3.1.1 b3.2.1), if_neg (nn s4 b4.1.1 b4.2.1)]
  rw [wrapA (x := al + fa - s.1 + s1.1) (by omega), wrapA (x := al + fa - s.1 + s1.1 + s2.1) (by omega), wrapA (x := al + fa - s.1 + s1.1 + s2.1 + s3.1) (by omega), wrapA (x := al + fa - s.1 + s1.1 + s2.1 + s3.1 + s4.1) (by omega), wrapA (x := al + fa) (by omega)]
  rw [wrapA (x := ma + fm - s.2 + s1.2) (by omega), wrapA (x := ma + fm - s.2 + s1.2 + s2.2) (by omega), wrapA (x := ma + fm - s.2 + s1.2 + s2.2 + s3.2) (by omega), wrapA (x := ma + fm - s.2 + s1.2 + s2.2 + s3.2 + s4.2) (by omega), wrapA (x := ma + fm) (by omega)]
  simp
  omega
theorem pick_list {α β : Type} [Inhabited β] {p : β → α → Prop} {l : List α} (h : ∀ x ∈ l, ∃ y, p y x) : ∃ m : List β, m.length = l.length ∧ ∀ i (hi : i < l.length), p (m.getD i default) l[i] := by
  induction l with
  | nil => exact ⟨[], rfl, fun i hi => absurd hi (Nat.not_lt_zero i)⟩
  | cons a r ih =>
    obtain ⟨y, hy⟩ := h a (by simp)
    obtain ⟨m, h1, h2⟩ := ih fun x hx => h x (by simp [hx])
    refine ⟨y :: m, by simp [h1], fun i hi => ?_⟩
    cases i with
    | zero => exact hy
    | succ i => exact h2 i (by simpa using hi)
instance : Inhabited Cut := ⟨cut0⟩
theorem rowC {w : World} {A : Option Addr} {ess : List (List Value)} {d : Nat} (hr : RdRow w A ess.length 3 (fun i => ess.getD i [])) (hw : ∀ es ∈ ess, LeafAll (Leaf.says w (d + 1)) [.int .i64, .int .i64, .int .i64] es) :
    ∃ l : List Cut, l.length = ess.length ∧ RdRow w A l.length 3 (elC l) := by
  obtain ⟨l, h1, h2⟩ := pick_list (p := fun (x : Cut) es => es = [I x.k, I x.a, I x.m]) (l := ess) fun es he => by
    obtain ⟨_, _, rfl, ⟨a0, rfl, _⟩, e0⟩ := (hw es he).cons
    obtain ⟨_, _, rfl, ⟨a1, rfl, _⟩, e1⟩ := e0.cons
    obtain ⟨_, _, rfl, ⟨a2, rfl, _⟩, e2⟩ := e1.cons
    obtain rfl := e2.nil
    exact ⟨⟨a0, a1, a2⟩, rfl⟩
  refine ⟨l, h1, ?_⟩
  rw [h1]
  refine hr.congr fun i hi => ?_
  rw [List.getD_eq_getElem?_getD, List.getElem?_eq_getElem hi]
  exact (h2 i hi).symm
theorem RunBalances_row (id day al ma fa fm : Int) (A : Option Addr) (c : Nat) (ess : List (List Value)) (x1 : Int) (w : World) (hr : RdRow w A ess.length 3 (fun i => ess.getD i [])) (hn : A = none → ess.length = 0) (hm : ess.length ≤ maxLen) (hw : ∀ es ∈ ess, LeafAll (Leaf.says w 3) [.int .i64, .int .i64, .int .i64] es) :
    Calls Try.prog 3 #[.agg #[I id, I day, I al, I ma, I fa, I fm, .slice A ess.length c], I x1] w fun e w' => e = .returned (.bool true) ∧ Below w.heap.size w w' := by
  obtain ⟨l, h1, h2⟩ := rowC hr hw
  rw [← h1] at hn hm ⊢
  by_cases h : l.length ≤ 17
  · have := spilelaw35_RunBalances_any id day al ma fa fm A c l x1 w h2 h hn
    rw [balances_law id day al ma fa fm l x1] at this
    exact this
  · exact spilelaw35_RunBalances_big id day al ma fa fm A c l x1 w h2 (by omega)
theorem RunWider_row (id day al ma fa fm : Int) (A : Option Addr) (c : Nat) (ess : List (List Value)) (x1 : Int) (x2 : Int) (w : World) (hr : RdRow w A ess.length 3 (fun i => ess.getD i [])) (hn : A = none → ess.length = 0) (hm : ess.length ≤ maxLen) (hw : ∀ es ∈ ess, LeafAll (Leaf.says w 3) [.int .i64, .int .i64, .int .i64] es) :
    Calls Try.prog 4 #[.agg #[I id, I day, I al, I ma, I fa, I fm, .slice A ess.length c], I x1, I x2] w fun e w' => e = .returned (.bool true) ∧ Below w.heap.size w w' := by
  obtain ⟨l, h1, h2⟩ := rowC hr hw
  rw [← h1] at hn hm ⊢
  by_cases h : l.length ≤ 17
  · have := spilelaw35_RunWider_any id day al ma fa fm A c l x1 x2 w h2 h hn
    rw [wider_law id day al ma fa fm l x1 x2] at this
    exact this
  · exact spilelaw35_RunWider_big id day al ma fa fm A c l x1 x2 w h2 (by omega)
theorem RunSums_row (id day al ma fa fm : Int) (A : Option Addr) (c : Nat) (ess : List (List Value)) (x1 : Int) (w : World) (hr : RdRow w A ess.length 3 (fun i => ess.getD i [])) (hn : A = none → ess.length = 0) (hm : ess.length ≤ maxLen) (hw : ∀ es ∈ ess, LeafAll (Leaf.says w 3) [.int .i64, .int .i64, .int .i64] es) :
    Calls Try.prog 5 #[.agg #[I id, I day, I al, I ma, I fa, I fm, .slice A ess.length c], I x1] w fun e w' => e = .returned (.bool true) ∧ Below w.heap.size w w' := by
  obtain ⟨l, h1, h2⟩ := rowC hr hw
  rw [← h1] at hn hm ⊢
  by_cases h : l.length ≤ 17
  · have := spilelaw35_RunSums_any id day al ma fa fm A c l x1 w h2 h hn
    rw [sums_law id day al ma fa fm l x1] at this
    exact this
  · exact spilelaw35_RunSums_big id day al ma fa fm A c l x1 w h2 (by omega)
theorem RunCloses_row (id day al ma fa fm : Int) (A : Option Addr) (c : Nat) (ess : List (List Value)) (w : World) (hr : RdRow w A ess.length 3 (fun i => ess.getD i [])) (hn : A = none → ess.length = 0) (hm : ess.length ≤ maxLen) (hw : ∀ es ∈ ess, LeafAll (Leaf.says w 3) [.int .i64, .int .i64, .int .i64] es) :
    Calls Try.prog 6 #[.agg #[I id, I day, I al, I ma, I fa, I fm, .slice A ess.length c]] w fun e w' => e = .returned (.bool true) ∧ Below w.heap.size w w' := by
  obtain ⟨l, h1, h2⟩ := rowC hr hw
  rw [← h1] at hn hm ⊢
  by_cases h : l.length ≤ 17
  · have := spilelaw35_RunCloses_any id day al ma fa fm A c l  w h2 h hn
    rw [closes_law id day al ma fa fm l h] at this
    exact this
  · exact spilelaw35_RunCloses_big id day al ma fa fm A c l  w h2 (by omega)
end Go.Proofs.Ytmdgaifonpgojaa
/- Chapter 35: the law of the yield. -/
set_option linter.unusedVariables false
set_option linter.unusedSimpArgs false
set_option maxRecDepth 8000
set_option maxHeartbeats 1000000
namespace Go.Proofs.Ytmdgaifonpgojaa
open Go.Sx Go.RowKit
theorem yie_err {id day al ma fa fm : Int} {l : List Cut} {n d e : Int} (hy : yieM id day al ma fa fm l = (n, d, e)) (he : e ≠ 0) : n = 0 ∧ d = 0 := by
  unfold yieM at hy
  split at hy
  · injection hy with h1 h2
    injection h2 with h2 h3
    exact ⟨h1.symm, h2.symm⟩
  unfold red2 at hy
  split at hy
  · injection hy with h1 h2
    injection h2 with h2 h3
    exact ⟨h1.symm, h2.symm⟩
  split at hy
  · injection hy with h1 h2
    injection h2 with h2 h3
    exact ⟨h1.symm, h2.symm⟩
  · injection hy with h1 h2
    injection h2 with h2 h3
    exact absurd h3.symm he
theorem yie_facts {id day al ma fa fm : Int} {l : List Cut} {n d : Int} (hm : l.length ≤ 17) (hy : yieM id day al ma fa fm l = (n, d, 0)) :
    ∃ N D g : Nat, n = (N : Int) ∧ d = (D : Int) ∧ 0 < g ∧ 0 < D ∧ al + fa = ((D * g : Nat) : Int) ∧ (kf l 2).1 = ((N * g : Nat) : Int) ∧ Nat.gcd N D = 1 ∧ okB id day al ma fa fm l = false := by
  by_cases h1 : okB id day al ma fa fm l = true
  · rw [yieM, if_pos h1] at hy
    injection hy with _ h2
    injection h2 with _ h3
    exact absurd h3 (by decide)
  have h1' : okB id day al ma fa fm l = false := by simpa using h1
  have ok := okB_run h1'
  rw [yieM, if_neg h1, red2] at hy
  obtain ⟨a1, a2⟩ := yield_amts ok hm
  rw [if_neg (by simp [a1, a2])] at hy
  split at hy
  · injection hy with _ h2
    injection h2 with _ h3
    exact absurd h3 (by decide)
  rename_i hz
  have hz : al + fa ≠ 0 := by simpa using hz
  have b1 := amtB_true a1
  have b2 := amtB_true a2
  obtain ⟨H, hH⟩ := Int.eq_ofNat_of_zero_le b1.1
  obtain ⟨W, hW⟩ := Int.eq_ofNat_of_zero_le b2.1
  rw [hH, hW] at hy
  simp only [Int.toNat_natCast] at hy
  injection hy with h1 h2
  injection h2 with h2 h3
  have hWp : 0 < W := by omega
  have gp : 0 < Nat.gcd H W := Nat.gcd_pos_of_pos_right _ hWp
  refine ⟨H / Nat.gcd H W, W / Nat.gcd H W, Nat.gcd H W, h1.symm, h2.symm, gp, Nat.div_pos (Nat.gcd_le_right _ hWp) gp, ?_, ?_, by rw [Nat.gcd_div (Nat.gcd_dvd_left _ _) (Nat.gcd_dvd_right _ _), Nat.div_self gp], h1'⟩
  · rw [Nat.div_mul_cancel (Nat.gcd_dvd_right _ _)]; exact hW
  · rw [Nat.div_mul_cancel (Nat.gcd_dvd_left _ _)]; exact hH
theorem RunYields_row0 (id day al ma fa fm : Int) (A : Option Addr) (c : Nat) (l : List Cut) (w : World) (hl : RdRow w A l.length 3 (elC l)) (hA : A = none → l.length = 0) :
    Calls Try.prog 7 #[.agg #[I id, I day, I al, I ma, I fa, I fm, .slice A l.length c]] w fun e w' => e = .returned (.bool true) ∧ Below w.heap.size w w' := by
  refine enterPlain tfine Try.func7 rfl 107 Try.ntmps7 [.agg [.k (I id), .k (I day), .k (I al), .k (I ma), .k (I fa), .k (I fm), .inp 1000 A l.length c]] [⟨1000, A, 3, l.length, elC l⟩] rfl rfl ⟨hl, trivial⟩ ⟨⟨trivial, trivial, trivial, trivial, trivial, trivial, .inl ⟨rfl, rfl, rfl⟩, trivial⟩, trivial⟩ ?_
  refine G.seqR tfine rfl trivial ?_
  refine G.seq ?_
  refine G.seqC tfine rfl trivial ?_
  refine GO.callPlain (v := .bool true) rfl rfl rfl rfl (fun args w => Try.call10 args w) (fun ρ w hs hok => awake_any w) ?_
  refine GO.fin tfine rfl trivial ?_
  refine G.cond_false rfl ?_
  refine G.skip ?_
  refine G.seq ?_
  refine G.seqC tfine rfl trivial ?_
  refine GO.callPlain (v := .bool (spileref35_Few id day al ma fa fm l)) rfl rfl rfl rfl (fun args w => Try.call11 args w) (fun ρ w hs hok => spileref35_Few_any id day al ma fa fm A c l w (hs.row (cap := c) rfl (hok _ List.mem_cons_self _ (List.mem_cons_of_mem _ (List.mem_cons_of_mem _ (List.mem_cons_of_mem _ (List.mem_cons_of_mem _ (List.mem_cons_of_mem _ (List.mem_cons_of_mem _ List.mem_cons_self))))))))) ?_
  refine GO.fin tfine rfl ?_ ?_
  · simp [AllP, condB]
  refine G.cond (b := (!(spileref35_Few id day al ma fa fm l) || decide (al > 1073741824)) || decide (fa > 1073741824)) rfl (fun h1 => ?_) (fun h1 => ?_)
  · refine G.seqR tfine rfl trivial ?_
    exact G.ret (endK.ret rfl rfl)
  have hm : l.length ≤ 17 := by
    simp [spileref35_Few] at h1
    omega
  have hb : al ≤ 1073741824 ∧ fa ≤ 1073741824 := by
    simp [spileref35_Few] at h1
    omega
  obtain ⟨⟨n, d, e⟩, hy⟩ : ∃ y, y = yieM id day al ma fa fm l := ⟨_, rfl⟩
  refine G.skip ?_
  refine G.seqC tfine rfl trivial ?_
  refine GO.callTabP ([I id, I day, I al, I ma, I fa, I fm], []) rfl rfl rfl rfl rfl rfl rfl (fun args w => Try.call13 args w) (fun ρ w hs hok => cp_any id day al ma fa fm A c l w (hs.row (cap := c) rfl (hok _ List.mem_cons_self _ (List.mem_cons_of_mem _ (List.mem_cons_of_mem _ (List.mem_cons_of_mem _ (List.mem_cons_of_mem _ (List.mem_cons_of_mem _ (List.mem_cons_of_mem _ List.mem_cons_self)))))))) hm hA) (fun A1 k1 => ?_)
  refine GO.callPlain (v := .tuple #[I n, I d, I e]) rfl rfl rfl rfl (fun args w => Try.call17 args w) (fun ρ w hs hok => ?_) ?_
  · have := runYield_any id day al ma fa fm A1 k1 l w (hs.row (cap := k1) rfl (hok _ List.mem_cons_self _ (List.mem_cons_of_mem _ (List.mem_cons_of_mem _ (List.mem_cons_of_mem _ (List.mem_cons_of_mem _ (List.mem_cons_of_mem _ (List.mem_cons_of_mem _ List.mem_cons_self)))))))) hm
    rw [← hy] at this
    exact this
  refine GO.fin tfine rfl trivial ?_
  refine G.seq ?_
  refine G.seqR tfine rfl trivial ?_
  refine G.cond (b := (e != 0)) rfl (fun h2 => ?_) (fun h2 => ?_)
  · have he : e ≠ 0 := by simpa using h2
    obtain ⟨rfl, rfl⟩ := yie_err hy.symm he
    refine G.seqR tfine rfl ?_ ?_
    · simp [AllP, condB]
    exact G.ret (endK.ret rfl rfl)
  have he : e = 0 := by simpa using h2
  subst he
  obtain ⟨N, D, g, rfl, rfl, hg, hD, eW, eH, hgcd, hok⟩ := yie_facts hm hy.symm
  have ok := okB_run hok
  have amt := yield_amts ok hm
  have a1 := amtB_true amt.1
  have kb := kf_bound ok.inl hm 2
  have leS := plus_le ok.inl hm (qk 2) (kindB 0) (fun x _ => rfl) l.length (Nat.le_refl _)
  have l1 := ok.lim1
  rw [rsum_eq ok.inl hm] at l1
  rw [List.take_length] at leS
  have leS : (kf l 2).1 ≤ (psum l (kindB 0)).1 := leS
  unfold inR at l1
  have hs2 : sumM id day al ma fa fm l 2 = ((kf l 2).1, (kf l 2).2, 0) := by rw [sumM, if_neg (fne hok), if_neg (by decide)]; rfl
  have hNg : N ≤ N * g := Nat.le_mul_of_pos_right _ hg
  have hDg : D ≤ D * g := Nat.le_mul_of_pos_right _ hg
  refine G.skip ?_
  refine G.seqC tfine rfl trivial ?_
  refine GO.callTabP ([I id, I day, I al, I ma, I fa, I fm], []) rfl rfl rfl rfl rfl rfl rfl (fun args w => Try.call13 args w) (fun ρ w hs hok => cp_any id day al ma fa fm A c l w (hs.row (cap := c) rfl (hok _ List.mem_cons_self _ (List.mem_cons_of_mem _ (List.mem_cons_of_mem _ (List.mem_cons_of_mem _ (List.mem_cons_of_mem _ (List.mem_cons_of_mem _ (List.mem_cons_of_mem _ List.mem_cons_self)))))))) hm hA) (fun A2 k2 => ?_)
  refine GO.callPlain (v := .tuple #[I (kf l 2).1, I (kf l 2).2, I 0]) rfl rfl rfl rfl (fun args w => Try.call19 args w) (fun ρ w hs hok => ?_) ?_
  · have := runSum_any id day al ma fa fm A2 k2 l 2 w (hs.row (cap := k2) rfl (hok _ List.mem_cons_self _ (List.mem_cons_of_mem _ (List.mem_cons_of_mem _ (List.mem_cons_of_mem _ (List.mem_cons_of_mem _ (List.mem_cons_of_mem _ (List.mem_cons_of_mem _ List.mem_cons_self)))))))) hm
    rw [hs2] at this
    exact this
  rw [eH]
  refine GO.fin tfine rfl trivial ?_
  refine G.seq ?_
  refine G.seqR tfine rfl ?_ ?_
  · simp [AllP, condB]
  refine G.cond (b := (((((((0 : Int) != 0) || decide ((D : Int) < 1)) || decide ((N : Int) < 0)) || decide ((N : Int) > 35184372088832)) || decide ((D : Int) > 4294967296)) || decide (((N * g : Nat) : Int) > 35184372088832))) rfl (fun h3 => ?_) (fun h3 => ?_)
  · exfalso
    simp at h3
    omega
  refine G.skip ?_
  refine G.seqR tfine rfl trivial ?_
  refine G.seq (G.block ?_)
  refine G.loop (fun z : Nat × Nat => St.of [(1, .v (.c (.ptr 1 0 0 0))), (3, .v (.c (.k (I N)))), (4, .v (.c (.k (I D)))), (6, .v (.c (.k (I ((N * g : Nat) : Int))))), (9, .v (.c (.k (I z.1)))), (10, .v (.c (.k (I z.2))))] [(1, .var 24 [.k (I id), .k (I day), .k (I al), .k (I ma), .k (I fa), .k (I fm), .inp 1000 A l.length c]), (1000, .ro 3 l.length (elC l))])
    (fun z => Nat.gcd z.1 z.2 = 1 ∧ z.1 < 9223372036854775808 ∧ z.2 < 9223372036854775808) (fun z => z.2) (N, D) ⟨hgcd, by simp only; omega, by simp only; omega⟩ (St.le_of rfl ⟨⟨_, rfl, Blk.le_refl _⟩, ⟨_, rfl, Blk.le_refl _⟩, trivial⟩ ⟨rfl, rfl, rfl, rfl, rfl, rfl, trivial⟩) ?_
  rintro ⟨p, q⟩ ⟨hpq, hp, hq⟩
  dsimp only at hpq hp hq ⊢
  refine G.seq (G.seqR tfine rfl trivial ?_)
  refine G.cond (b := decide ((q : Int) > 0)) rfl (fun h5 => ?_) (fun h5 => ?_)
  rotate_left
  · have h5 := of_decide_eq_false h5
    have : q = 0 := by omega
    subst this
    rw [Nat.gcd_zero_right] at hpq
    subst hpq
    refine G.exit ?_
    refine G.seqR tfine rfl trivial ?_
    rw [wrapA (by omega), eW]
    have td : (((D * g : Nat) : Int).tmod (D : Int)) = ((D * g % D : Nat) : Int) := rfl
    have tq : (((D * g : Nat) : Int).tdiv (D : Int)) = ((D * g / D : Nat) : Int) := rfl
    have e1 : D * g % D = 0 := Nat.mul_mod_right _ _
    have e2 : D * g / D = g := Nat.mul_div_cancel_left _ hD
    have gW : g ≤ D * g := Nat.le_mul_of_pos_left _ hD
    refine G.seqR tfine rfl ?_ ?_
    · simp [AllP, condB]
      try omega
    refine G.ret (endK.ret rfl (vb ?_))
    rw [td, tq, e1, e2, wrapA (x := ((g : Nat) : Int)) (by omega), ← Int.natCast_mul, wrapA (by omega)]
    simp
  have h5 := of_decide_eq_true h5
  refine G.skip ?_
  refine G.block ?_
  refine G.regD tfine hmix [0, 0, 0, 6, 3, 31] [] rfl rfl rfl rfl ?_ ?_
  · simp only [AllP]
    and_intros <;> first | trivial | omega
  have hlt : p % q < q := Nat.mod_lt _ (by omega)
  have tm : ((p : Int).tmod (q : Int)) = ((p % q : Nat) : Int) := rfl
  rw [tm]
  refine ⟨(q, p % q), ⟨?_, hq, by dsimp only; omega⟩, hlt, St.le_of rfl ⟨⟨_, rfl, Blk.le_refl _⟩, ⟨_, rfl, Blk.le_refl _⟩, trivial⟩ ⟨rfl, rfl, rfl, rfl, rfl, rfl, trivial⟩⟩
  dsimp only
  rw [Nat.gcd_comm, ← Nat.gcd_rec, Nat.gcd_comm, hpq]
theorem RunYields_row (id day al ma fa fm : Int) (A : Option Addr) (c : Nat) (ess : List (List Value)) (w : World) (hr : RdRow w A ess.length 3 (fun i => ess.getD i [])) (hn : A = none → ess.length = 0) (hm : ess.length ≤ maxLen) (hw : ∀ es ∈ ess, LeafAll (Leaf.says w 3) [.int .i64, .int .i64, .int .i64] es) :
    Calls Try.prog 7 #[.agg #[I id, I day, I al, I ma, I fa, I fm, .slice A ess.length c]] w fun e w' => e = .returned (.bool true) ∧ Below w.heap.size w w' := by
  obtain ⟨l, h1, h2⟩ := rowC hr hw
  rw [← h1] at hn hm ⊢
  exact RunYields_row0 id day al ma fa fm A c l w h2 hn
end Go.Proofs.Ytmdgaifonpgojaa
