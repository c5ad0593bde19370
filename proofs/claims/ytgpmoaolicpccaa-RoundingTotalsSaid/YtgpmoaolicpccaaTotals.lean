/- RoundingTotals returns true for all arguments. -/
import Derived.Test.YtgpmoaolicpccaaL
import Derived.Test.YtgpmoaolicpccaaNear
set_option linter.unusedVariables false
set_option linter.unusedSimpArgs false
set_option maxRecDepth 8000
namespace Go.Proofs.Ytgpmoaolicpccaa
open Go.Sx Go.RowKit
theorem total_ok {l : List Int} {b rule : Int} (h : (total3 l b rule).2.2 = 0) : (1 ≤ rule ∧ rule ≤ 4) ∧ l.length ≤ 64 ∧ (1 ≤ b ∧ b ≤ M) ∧ (∀ x ∈ l, 0 ≤ x ∧ x ≤ M) ∧ (total3 l b rule).1 = SQ l b rule ∧ (total3 l b rule).2.1 = SR l b rule := by
  unfold total3 at h ⊢
  split at h
  · cases h
  rename_i h1
  split at h
  · cases h
  rename_i h2
  split at h
  · cases h
  rename_i h3
  rw [if_neg h1, if_neg h2, if_neg h3]
  have h3' : divB b = true ∧ l.any badB = false := by simpa [not_or] using h3
  have h2' : ¬ (l.length : Int) > 64 := by simpa using h2
  exact ⟨isB_true (by simpa using h1), by omega, divB_true h3'.1, bad_false h3'.2, rfl, rfl⟩
theorem total_err {l : List Int} {b rule : Int} (h : (total3 l b rule).2.2 ≠ 0) : (total3 l b rule).1 = 0 ∧ (total3 l b rule).2.1 = 0 := by
  unfold total3 at h ⊢
  split
  · exact ⟨rfl, rfl⟩
  · rename_i h1
    rw [if_neg h1] at h
    split
    · exact ⟨rfl, rfl⟩
    · rename_i h2
      rw [if_neg h2] at h
      split
      · exact ⟨rfl, rfl⟩
      · rename_i h3
        rw [if_neg h3] at h
        exact absurd rfl h
theorem sum_all (l : List Int) (b rule : Int) (hb : 1 ≤ b) : SQ l b rule * b + SR l b rule = l.sum := by
  unfold SQ SR
  induction l with
  | nil => simp
  | cons a r ih =>
    have := rnd_sum (a := a) (rule := rule) hb
    simp only [List.map_cons, List.sum_cons, Int.add_mul]
    omega
theorem SR_nonneg (l : List Int) (b : Int) (hb : 1 ≤ b) : 0 ≤ SR l b 1 := by
  unfold SR
  induction l with
  | nil => simp
  | cons a r ih =>
    have := near1 (a := a) hb
    simp only [List.map_cons, List.sum_cons]
    omega
theorem SR_nonpos (l : List Int) (b : Int) (hb : 1 ≤ b) : SR l b 2 ≤ 0 := by
  unfold SR
  induction l with
  | nil => simp
  | cons a r ih =>
    have := near2 (a := a) hb
    simp only [List.map_cons, List.sum_cons]
    omega
theorem quo_le (l : List Int) (b : Int) (hb : 1 ≤ b) : SQ l b 1 ≤ l.sum / b := by
  have h1 := sum_all l b 1 hb
  have h2 := SR_nonneg l b hb
  exact (Int.le_ediv_iff_mul_le (by omega)).2 (by omega)
theorem quo_ge (l : List Int) (b : Int) (hb : 1 ≤ b) : l.sum / b ≤ SQ l b 2 := by
  have h1 := sum_all l b 2 hb
  have h2 := SR_nonpos l b hb
  have h3 : l.sum / b ≤ SQ l b 2 * b / b := Int.ediv_le_ediv (by omega) (by omega)
  rw [Int.mul_ediv_cancel _ (by omega)] at h3
  exact h3
theorem rndQ_one {a b : Int} : rndQ a b 1 = a / b := by simp [rndQ, upB]
theorem roundingTotals_walk (A : Option Addr) (c : Nat) (l : List Int) (b rule : Int) (w : World) (hl : RdRow w A l.length 1 (elI l)) (hA : A = none → l.length = 0) :
    Calls Try.prog 10 #[.slice A l.length c, I b, I rule] w fun e w' => e = .returned (.bool true) ∧ Below w.heap.size w w' := by
  refine enterPlain tfine Try.func10 rfl 90 Try.ntmps10 [.c (.inp 1000 A l.length c), .c (.k (I b)), .c (.k (I rule))] [⟨1000, A, 1, l.length, elI l⟩] rfl rfl ⟨hl, trivial⟩ ⟨.inl ⟨rfl, rfl, rfl⟩, trivial, trivial, trivial⟩ ?_
  refine G.seqR tfine rfl trivial ?_
  refine G.seq (G.seqC tfine rfl trivial ?_)
  refine GO.callPlain rfl rfl rfl rfl (fun args w => Try.call11 args w) (fun ρ w hm _ => awake_any w) ?_
  refine GO.fin tfine rfl trivial ?_
  refine G.cond_false rfl (G.skip ?_)
  refine G.seq (G.seqR tfine rfl trivial ?_)
  refine G.cond rfl (fun h => ?_) (fun h => ?_)
  · refine G.seqR tfine rfl trivial ?_
    exact G.ret (endK.ret rfl rfl)
  refine G.skip ?_
  have hlen : l.length ≤ 65 := by have := of_decide_eq_false h; omega
  refine G.seqC tfine rfl trivial ?_
  refine GO.callRow rfl rfl rfl rfl rfl rfl rfl (fun args w => Try.call20 args w) (fun ρ w hs hok => clone_any A c l w (hs.row rfl (hok _ List.mem_cons_self)) (by unfold maxLen; omega) (by omega) hA) fun A2 c2 => ?_
  refine GO.more tfine rfl trivial ?_
  refine GO.callPlain rfl rfl rfl rfl (fun args w => Try.call19 args w) (fun ρ w hs hok => total_any A2 c2 l b rule w (hs.row rfl (hok _ List.mem_cons_self)) (by omega)) ?_
  refine GO.fin tfine rfl trivial ?_
  refine G.seq (G.seqR tfine rfl trivial ?_)
  refine G.cond rfl (fun h => ?_) (fun h => ?_)
  · refine G.seqR tfine rfl ?_ ?_
    · simp [AllP, condB]
    refine G.ret (endK.ret rfl (vb ?_))
    have := total_err (l := l) (b := b) (rule := rule) (by simpa using h)
    simp [this.1, this.2]
  refine G.skip ?_
  obtain ⟨hk, hl64, hb, hin, e1, e2⟩ := total_ok (l := l) (b := b) (rule := rule) (by simpa using h)
  rw [e1, e2]
  have hsumk : ∀ k, 0 ≤ (l.take k).sum ∧ (l.take k).sum ≤ 64 * M := by
    intro k
    have h1 : ∀ (r : List Int), (∀ x ∈ r, 0 ≤ x ∧ x ≤ M) → 0 ≤ r.sum ∧ r.sum ≤ r.length * M := by
      intro r
      induction r with
      | nil => intro _; simp
      | cons a r ih =>
        intro hr
        have := ih fun x hx => hr x (by simp [hx])
        have := hr a (by simp)
        simp only [List.sum_cons, List.length_cons]
        have : ((r.length + 1 : Nat) : Int) * M = r.length * M + M := by rw [Int.natCast_add]; simp [Int.add_mul]
        omega
    have h2 := h1 (l.take k) fun x hx => hin x (List.mem_of_mem_take hx)
    have h3 : ((l.take k).length : Int) * M ≤ 64 * M := Int.mul_le_mul_of_nonneg_right (by simp; omega) (by decide)
    omega
  refine G.seqR tfine rfl trivial ?_
  refine G.seq (G.seqR tfine rfl trivial ?_)
  refine G.block (G.loop (fun k : Nat => St.of [(0, .v (.c (.inp 1000 A l.length c))), (1, .v (.c (.k (I b)))), (2, .v (.c (.k (I rule)))), (7, .v (.c (.k (I (SQ l b rule))))), (8, .v (.c (.k (I (SR l b rule))))), (10, .v (.c (.k (I (l.take k).sum)))), (38, .v (.c (.inp 1000 A l.length c))), (39, .v (.c (.k (I l.length)))), (40, .v (.c (.k (I k))))]
      [(1000, .ro 1 l.length (elI l))])
    (fun k => k ≤ l.length) (fun k => l.length - k) 0 (by omega) (St.le_of rfl ⟨⟨_, rfl, Blk.le_refl _⟩, trivial⟩ ⟨rfl, rfl, rfl, rfl, rfl, rfl, rfl, rfl, rfl, trivial⟩) ?_)
  intro k hk2
  refine G.seqR tfine rfl trivial ?_
  refine G.seq (G.cond rfl (fun h => ?_) (fun h => ?_))
  rotate_left
  · have h := of_decide_eq_false h
    have : k = l.length := by omega
    subst this
    refine G.exit ?_
    have hs := hsumk l.length
    rw [List.take_length] at hs ⊢
    have hall := sum_all l b rule hb.1
    have hb2 := sum_bound (fun n => rndR n b rule) (M + 1) l fun x hx => (rnd_bound (rule := rule) ⟨by have := hin x hx; unfold M at *; omega, (hin x hx).2⟩ hb).2
    have hkl : (l.length : Int) * (M + 1) ≤ 64 * (M + 1) := Int.mul_le_mul_of_nonneg_right (by omega) (by decide)
    have hsr : SR l b rule = (l.map fun n => rndR n b rule).sum := rfl
    refine G.seq (G.seqR tfine rfl trivial ?_)
    rw [IntWalk.i64_in (SQ l b rule * b) (by unfold M at *; omega), IntWalk.i64_in (SQ l b rule * b + SR l b rule) (by unfold M at *; omega)]
    have hne : (SQ l b rule * b + SR l b rule != l.sum) = false := by simp [hall]
    rw [hne]
    refine G.cond_false rfl (G.skip ?_)
    refine G.seqC tfine rfl trivial ?_
    refine GO.callPlain rfl rfl rfl rfl (fun args w => Try.call12 args w) (fun ρ w hm _ => quotient_any l.sum b 1 w) ?_
    refine GO.fin tfine rfl trivial ?_
    refine G.seqR tfine rfl ?_ ?_
    · simp [AllP, condB]
      and_intros <;> intros <;> omega
    refine G.ret (endK.ret rfl (vb ?_))
    by_cases h0 : (quo3 l.sum b 1).2.2 = 0
    · have hq := (quo_ok h0).2.1
      rw [rndQ_one] at hq
      rw [hq]
      by_cases r1 : rule = 1
      · subst r1
        have := quo_le l b hb.1
        simp [this]
      · by_cases r2 : rule = 2
        · subst r2
          have := quo_ge l b hb.1
          simp [this]
        · simp [r1, r2]
    · simp [h0]
  have h := of_decide_eq_true h
  have hlt : k < l.length := by omega
  refine G.skip ?_
  refine G.seq (G.block ?_)
  refine G.seqR tfine rfl ⟨by simpa using hlt, by omega, by omega, trivial⟩ ?_
  rw [Int.toNat_natCast]
  refine G.reg tfine rfl trivial ?_
  have hs1 := hsumk (k + 1)
  have hs2 : (l.take (k + 1)).sum = (l.take k).sum + l.getD k 0 := by
    have := sum_take id l k hlt
    simpa using this
  have w1 : IntKind.i64.wrap ((l.take k).sum + l.getD k 0) = (l.take (k + 1)).sum := by
    rw [IntWalk.i64_in _ (by rw [← hs2]; unfold M at *; omega), hs2]
  rw [w1]
  refine G.reg tfine rfl trivial ?_
  rw [IntWalk.i64_in _ (by omega)]
  exact ⟨k + 1, hlt, (by show l.length - (k + 1) < l.length - k; omega), St.le_of rfl ⟨⟨_, rfl, Blk.le_refl _⟩, trivial⟩ ⟨rfl, rfl, rfl, rfl, rfl, rfl, rfl, rfl, rfl, trivial⟩⟩
end Go.Proofs.Ytgpmoaolicpccaa
