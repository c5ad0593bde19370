/- Chapter 02: the total and the rule of the reference. -/
import Derived.Test.YtgpmoaolicpccaaK
import Derived.Test.YtgpmoaolicpccaaI
set_option linter.unusedVariables false
set_option linter.unusedSimpArgs false
set_option maxRecDepth 8000
namespace Go.Proofs.Ytgpmoaolicpccaa
open Go.Sx Go.RowKit
theorem refTotal_any (A : Option Addr) (c : Nat) (l : List Int) (b rule : Int) (w : World) (hl : RdRow w A l.length 1 (elI l)) :
    Calls Try.prog 21 #[.slice A l.length c, I b, I rule] w fun e w' => e = .returned (.tuple #[I (total3 l b rule).1, I (total3 l b rule).2.1, I (total3 l b rule).2.2]) ∧ Below w.heap.size w w' := by
  refine enterPlain tfine Try.func21 rfl 64 Try.ntmps21 [.c (.inp 1000 A l.length c), .c (.k (I b)), .c (.k (I rule))] [⟨1000, A, 1, l.length, elI l⟩] rfl rfl ⟨hl, trivial⟩ ⟨.inl ⟨rfl, rfl, rfl⟩, trivial, trivial, trivial⟩ ?_
  refine G.seqR tfine rfl trivial ?_
  refine G.seq (G.seqC tfine rfl trivial ?_)
  refine GO.callPlain rfl rfl rfl rfl (fun args w => Try.call29 args w) (fun ρ w hm _ => refIs_any _ w) ?_
  refine GO.fin tfine rfl trivial ?_
  refine G.cond rfl (fun h => ?_) (fun h => ?_)
  · refine G.seqR tfine rfl trivial ?_
    refine G.ret (endK.ret rfl ?_)
    rw [total3, h]; rfl
  refine G.skip ?_
  refine G.seq (G.seqR tfine rfl trivial ?_)
  refine G.cond rfl (fun h2 => ?_) (fun h2 => ?_)
  · refine G.seqR tfine rfl trivial ?_
    refine G.ret (endK.ret rfl ?_)
    rw [total3, h, h2]; rfl
  refine G.skip ?_
  refine G.seq (G.seqR tfine rfl ?_ ?_)
  · simp [AllP, condB]
  have e : (decide (b < 1) || decide (b > 128849018880000)) = !divB b := by
    rw [Bool.eq_iff_iff]; simp [divB]
  rw [e]
  refine G.cond rfl (fun h3 => ?_) (fun h3 => ?_)
  · refine G.seqR tfine rfl trivial ?_
    refine G.ret (endK.ret rfl ?_)
    rw [total3, h, h2, if_neg (by simp), if_neg (by simp), if_pos (by simp [h3])]
  refine G.skip ?_
  have hlen : l.length ≤ 64 := by have := of_decide_eq_false h2; omega
  have hk := isB_true (r := rule) (by simpa using h)
  have hdb : divB b = true := by simpa using h3
  have hb := divB_true hdb
  refine G.seqR tfine rfl trivial ?_
  refine G.seq (G.seqR tfine rfl trivial ?_)
  refine G.block (G.loop (fun k : Nat => St.of [(0, .v (.c (.inp 1000 A l.length c))), (1, .v (.c (.k (I b)))), (2, .v (.c (.k (I rule)))), (9, .v (.c (.k (I (SQ (l.take k) b rule))))), (10, .v (.c (.k (I (SR (l.take k) b rule))))), (11, .v (.c (.k (I k))))]
      [(1000, .ro 1 l.length (elI l))])
    (fun k => k ≤ l.length ∧ (l.take k).any badB = false) (fun k => l.length - k) 0 ⟨by omega, rfl⟩ (St.le_of rfl ⟨⟨_, rfl, Blk.le_refl _⟩, trivial⟩ ⟨rfl, rfl, rfl, rfl, rfl, rfl, trivial⟩) ?_)
  rintro k ⟨hk2, hpre⟩
  refine G.seq (G.seqR tfine rfl trivial ?_)
  refine G.cond rfl (fun h => ?_) (fun h => ?_)
  rotate_left
  · have h := of_decide_eq_false h
    have : k = l.length := by omega
    subst this
    refine G.exit ?_
    refine G.seqR tfine rfl trivial ?_
    refine G.ret (endK.ret rfl ?_)
    rw [List.take_length] at hpre ⊢
    rw [total3, h2, hdb, hpre]
    simp [hk, isB]
  have h := of_decide_eq_true h
  have hlt : k < l.length := by omega
  have hx : l.getD k 0 ∈ l := by rw [List.getD_eq_getElem?_getD, List.getElem?_eq_getElem hlt]; exact List.getElem_mem hlt
  refine G.skip ?_
  refine G.seq (G.block ?_)
  refine G.seq (G.seqR tfine rfl ?_ ?_)
  · simp [AllP, condB]
    omega
  rw [Int.toNat_natCast]
  refine G.cond rfl (fun h4 => ?_) (fun h4 => ?_)
  · refine G.seqR tfine rfl trivial ?_
    refine G.ret (endK.ret rfl ?_)
    have hbad : l.any badB = true := List.any_eq_true.2 ⟨_, hx, h4⟩
    rw [total3, h2, hdb, hbad]
    simp [hk, isB]
  refine G.skip ?_
  have h4 : badB (l.getD k 0) = false := h4
  have hpre' : (l.take (k + 1)).any badB = false := by
    have : l[k] = l.getD k 0 := by rw [List.getD_eq_getElem?_getD, List.getElem?_eq_getElem hlt]; rfl
    rw [List.take_succ_eq_append_getElem hlt, List.any_append, hpre, List.any_cons, this, h4]
    rfl
  have hx1 : 0 ≤ l.getD k 0 ∧ l.getD k 0 ≤ M := by simp [badB] at h4; unfold M; simp; omega
  have hx2 : -M ≤ l.getD k 0 ∧ l.getD k 0 ≤ M := ⟨by unfold M at *; omega, hx1.2⟩
  refine G.seqC tfine rfl ⟨by simpa using hlt, by omega, by omega, trivial⟩ ?_
  rw [Int.toNat_natCast]
  refine GO.callPlain rfl rfl rfl rfl (fun args w => Try.call13 args w) (fun ρ w _ _ => refQuotient_any (l.getD k 0) b rule w) ?_
  have hq : quo3 (l.getD k 0) b rule = (rndQ (l.getD k 0) b rule, rndR (l.getD k 0) b rule, 0) := by
    generalize l.getD k 0 = x at *
    unfold quo3
    rw [if_neg (by simp [isB, hk]), if_neg (by simp [hdb]; unfold M at *; omega)]
  rw [hq]
  refine GO.fin tfine rfl trivial ?_
  have hbd : ∀ x ∈ l.take k, (-(M + 1) ≤ rndQ x b rule ∧ rndQ x b rule ≤ M + 1) ∧ (-(M + 1) ≤ rndR x b rule ∧ rndR x b rule ≤ M + 1) := fun x hx => by
    have := bad_false hpre x hx
    exact rnd_bound ⟨by unfold M at *; omega, this.2⟩ hb
  have hb1 := sum_bound (fun n => rndQ n b rule) (M + 1) (l.take k) fun x hx => (hbd x hx).1
  have hb2 := sum_bound (fun n => rndR n b rule) (M + 1) (l.take k) fun x hx => (hbd x hx).2
  have hr := rnd_bound (rule := rule) hx2 hb
  have hkl : ((l.take k).length : Int) * (M + 1) ≤ 64 * (M + 1) := Int.mul_le_mul_of_nonneg_right (by simp; omega) (by decide)
  refine G.reg tfine rfl trivial ?_
  have w1 : IntKind.i64.wrap (SQ (l.take k) b rule + rndQ (l.getD k 0) b rule) = SQ (l.take (k + 1)) b rule := by
    rw [IntWalk.i64_in _ (by simp only [SQ]; unfold M at *; omega), SQ, SQ, sum_take _ l k hlt]
  have w2 : IntKind.i64.wrap (SR (l.take k) b rule + rndR (l.getD k 0) b rule) = SR (l.take (k + 1)) b rule := by
    rw [IntWalk.i64_in _ (by simp only [SR]; unfold M at *; omega), SR, SR, sum_take _ l k hlt]
  rw [w1, w2]
  refine G.reg tfine rfl trivial ?_
  rw [IntWalk.i64_in _ (by omega)]
  exact ⟨k + 1, ⟨hlt, hpre'⟩, (by show l.length - (k + 1) < l.length - k; omega), St.le_of rfl ⟨⟨_, rfl, Blk.le_refl _⟩, trivial⟩ ⟨rfl, rfl, rfl, rfl, rfl, rfl, trivial⟩⟩
theorem ruleS_eq (s : ByteArray) : ruleS s = if firstI (eqS s WS) 1 4 = -1 then 0 else firstI (eqS s WS) 1 4 := by
  unfold ruleS
  rw [show firstI (eqS s WS) 0 5 = (if eqS s WS 0 = true then ((0 : Nat) : Int) else firstI (eqS s WS) 1 4) from rfl]
  by_cases h0 : eqS s WS 0 = true
  · rw [if_pos h0]
    have hs : s.toList = [] := by
      have : (s.toList == w0.toList) = true := h0
      simpa [ByteArray.toList_eq] using this
    have : firstI (eqS s WS) 1 4 = -1 := by
      simp [firstI, eqS, hs, WS, ByteArray.toList_eq]
    rw [this]; rfl
  · rw [if_neg h0]
    have hk : ∀ m k, 1 ≤ k → firstI (eqS s WS) k m = -1 ∨ 0 < firstI (eqS s WS) k m := by
      intro m
      induction m with
      | zero => intro k _; left; rfl
      | succ m ih =>
        intro k hk
        unfold firstI
        split
        · right; omega
        · exact ih (k + 1) (by omega)
    rcases hk 4 1 (by omega) with h | h
    · rw [h]; rfl
    · rw [if_pos h, if_neg (by omega)]
theorem refRule_any (s : ByteArray) (w : World) : Calls Try.prog 25 #[.string s] w fun e w' => e = .returned (I (ruleS s)) ∧ Below w.heap.size w w' := by
  refine enterPlain tfine Try.func25 rfl 13 Try.ntmps25 [.c (.k (.string s))] [] rfl rfl trivial ⟨trivial, trivial⟩ ?_
  rw [ruleS_eq]
  refine G.seqR tfine rfl trivial ?_
  refine G.seq (G.seqR tfine rfl trivial ?_)
  refine G.block (G.loop (fun k : Nat => St.of [(0, .v (.c (.k (.string s)))), (3, .v (.c (.k (I k))))] [])
    (fun k => 1 ≤ k ∧ k ≤ 5 ∧ firstI (eqS s WS) 1 4 = firstI (eqS s WS) k (5 - k)) (fun k => 5 - k) 1 ⟨by omega, by omega, rfl⟩ (St.le_of rfl trivial ⟨rfl, rfl, trivial⟩) ?_)
  rintro k ⟨hk1, hk2, hfi⟩
  refine G.seq (G.seqR tfine rfl trivial ?_)
  refine G.cond rfl (fun h => ?_) (fun h => ?_)
  rotate_left
  · have h := of_decide_eq_false h
    have : k = 5 := by omega
    subst this
    refine G.exit ?_
    refine G.seqR tfine rfl trivial ?_
    refine G.ret (endK.ret rfl ?_)
    rw [hfi]; rfl
  have h := of_decide_eq_true h
  refine G.skip ?_
  refine G.seq (G.block ?_)
  refine G.seqC tfine rfl trivial ?_
  refine GO.callPlain rfl rfl rfl rfl (fun args w => Try.call23 args w) (fun ρ w _ _ => refWord_any k w) ?_
  refine GO.fin tfine rfl trivial ?_
  have hw : wordS (k : Int) = WS.getD k w0 := by
    unfold wordS
    rw [if_neg (by simp [isB]; omega)]
    rfl
  have he : ((wordS (k : Int)).toList == s.toList) = eqS s WS k := by rw [hw, eqS]; exact BEq.comm
  rw [he]
  have hstep : firstI (eqS s WS) k (5 - k) = if eqS s WS k = true then (k : Int) else firstI (eqS s WS) (k + 1) (5 - (k + 1)) := by
    rw [show 5 - k = (5 - (k + 1)) + 1 by omega]; rfl
  rw [hstep] at hfi
  refine G.cond rfl (fun h2 => ?_) (fun h2 => ?_)
  · refine G.seqR tfine rfl trivial ?_
    refine G.ret (endK.ret rfl ?_)
    rw [hfi, if_pos h2, if_neg (by omega)]
  · refine G.skip ?_
    refine G.reg tfine rfl trivial ?_
    rw [IntWalk.i64_in _ (by omega)]
    rw [if_neg (by rw [h2]; simp)] at hfi
    exact ⟨k + 1, ⟨by omega, by omega, hfi⟩, (by show 5 - (k + 1) < 5 - k; omega), St.le_of rfl trivial ⟨rfl, rfl, trivial⟩⟩
end Go.Proofs.Ytgpmoaolicpccaa
