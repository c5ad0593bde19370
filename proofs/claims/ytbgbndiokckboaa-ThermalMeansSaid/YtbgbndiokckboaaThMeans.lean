/- Chapter 05: the walk of ThermalMeans. -/
import Derived.Test.YtbgbndiokckboaaThH
set_option linter.unusedVariables false
set_option linter.unusedSimpArgs false
set_option maxRecDepth 8000
set_option maxHeartbeats 1000000
namespace Go.Proofs.Ytbgbndiokckboaa
open Go.Sx Go.RowKit
theorem sum_rev (l : List Int) : l.reverse.sum = l.sum := by
  induction l with
  | nil => rfl
  | cons a r ih => rw [List.reverse_cons, List.sum_append, ih, List.sum_cons, List.sum_cons, List.sum_nil]; omega
theorem mean_rev (l : List Int) (k : Int) : mean2 l.reverse k = mean2 l k := by
  unfold mean2
  rw [List.length_reverse, List.any_reverse, sum_rev]
theorem mean_err {l : List Int} {k : Int} (h : (mean2 l k).2 ≠ 0) : (mean2 l k).1 = 0 := by
  unfold mean2 at *
  split
  · rfl
  · rename_i h1
    rw [if_neg h1] at h
    split
    · rfl
    · rename_i h2
      rw [if_neg h2] at h
      split
      · rfl
      · rename_i h3
        rw [if_neg h3] at h
        split
        · rfl
        · rename_i h4
          rw [if_neg h4] at h
          exact (quo_err h).1
theorem MN_le (l : List Int) : ∀ k, k ≤ l.length → ∀ i, i < k → MN l k ≤ l.getD i 0 := by
  intro k
  induction k with
  | zero => intro _ i hi; omega
  | succ k ih =>
    intro hk i hi
    rw [MNF_step l k hk]
    unfold MNF
    by_cases e : i = k
    · subst e; split <;> omega
    · have := ih (by omega) i (by omega)
      split <;> omega
theorem MX_ge (l : List Int) : ∀ k, k ≤ l.length → ∀ i, i < k → l.getD i 0 ≤ MX l k := by
  intro k
  induction k with
  | zero => intro _ i hi; omega
  | succ k ih =>
    intro hk i hi
    rw [MXF_step l k hk]
    unfold MXF
    by_cases e : i = k
    · subst e; split <;> omega
    · have := ih (by omega) i (by omega)
      split <;> omega
theorem sum_ge (m : Int) (l : List Int) (h : ∀ x ∈ l, m ≤ x) : m * l.length ≤ l.sum := by
  induction l with
  | nil => simp
  | cons a r ih =>
    have h1 := h a (by simp)
    have h2 := ih fun x hx => h x (by simp [hx])
    rw [List.sum_cons, List.length_cons, Int.natCast_add, Int.mul_add]
    simp
    omega
theorem sum_le (m : Int) (l : List Int) (h : ∀ x ∈ l, x ≤ m) : l.sum ≤ m * l.length := by
  induction l with
  | nil => simp
  | cons a r ih =>
    have h1 := h a (by simp)
    have h2 := ih fun x hx => h x (by simp [hx])
    rw [List.sum_cons, List.length_cons, Int.natCast_add, Int.mul_add]
    simp
    omega
theorem mean_ok {l : List Int} {k : Int} (h : (mean2 l k).2 = 0) : 0 < l.length ∧ MN l l.length ≤ (mean2 l k).1 ∧ (mean2 l k).1 ≤ MX l l.length := by
  unfold mean2 at *
  split at h
  · cases h
  rename_i h1
  split at h
  · cases h
  rename_i h2
  split at h
  · cases h
  rename_i h3
  split at h
  · cases h
  rename_i h4
  rw [if_neg h1, if_neg h2, if_neg h3, if_neg h4]
  have hk := isB_true (r := k) (by simpa using h1)
  have h2' : l.length ≠ 0 := by simpa using h2
  have h3' : l.length ≤ 64 := by simp at h3; omega
  have hc := cold_false (l := l) (by simpa using h4)
  have hs := sum_all hc h3' l.length
  rw [List.take_length] at hs
  rw [quo3_of ⟨by unfold M; omega, by unfold M; omega⟩ ⟨by omega, by unfold M; omega⟩ hk]
  have each : ∀ x ∈ l, MN l l.length ≤ x ∧ x ≤ MX l l.length := by
    intro x hx
    obtain ⟨i, hi, rfl⟩ := List.mem_iff_getElem.1 hx
    have a := MN_le l l.length (Nat.le_refl _) i hi
    have b := MX_ge l l.length (Nat.le_refl _) i hi
    rw [List.getD_eq_getElem?_getD, List.getElem?_eq_getElem hi] at a b
    exact ⟨a, b⟩
  have g1 := sum_ge (MN l l.length) l fun x hx => (each x hx).1
  have g2 := sum_le (MX l l.length) l fun x hx => (each x hx).2
  have m1 := rndQ_mono (b := (l.length : Int)) (rule := k) (by omega) g1
  have m2 := rndQ_mono (b := (l.length : Int)) (rule := k) (by omega) g2
  rw [rnd_exact (by omega)] at m1 m2
  exact ⟨by omega, m1, m2⟩
theorem reverse0_any (A : Option Addr) (c : Nat) (w : World) :
    Calls Try.prog 21 #[.slice A 0 c] w fun e w' => e = .returned (.tuple #[]) ∧ Below w.heap.size w w' := by
  refine enterPlain tfine Try.func21 rfl 28 Try.ntmps21 [.c (.inp 1000 A 0 c)] [⟨1000, A, 1, 0, elI []⟩] rfl rfl ⟨fun h => absurd h (Nat.lt_irrefl 0), trivial⟩ ⟨.inl ⟨rfl, rfl, rfl⟩, trivial⟩ ?_
  refine G.seqR tfine rfl trivial ?_
  refine G.block (G.loop (fun _ : Unit => St.of [(2, .v (.c (.k (I 0)))), (3, .v (.c (.k (I (-1)))))] []) (fun _ => True) (fun _ => 0) () trivial (St.le_of rfl trivial ⟨rfl, rfl, trivial⟩) ?_)
  intro _ _
  refine G.seq (G.seqR tfine rfl trivial ?_)
  refine G.cond_false rfl ?_
  exact G.exit (endK.norm rfl rfl)
theorem thermalMeans_walkN (A : Option Addr) (c : Nat) (l : List Int) (k : Int) (w : World) (hl : RdRow w A l.length 1 (elI l)) (hA : A = none → l.length = 0) (hn : 0 < l.length) :
    Calls Try.prog 8 #[.slice A l.length c, I k] w fun e w' => e = .returned (.bool true) ∧ Below w.heap.size w w' := by
  refine enterPlain tfine Try.func8 rfl 67 Try.ntmps8 [.c (.inp 1000 A l.length c), .c (.k (I k))] [⟨1000, A, 1, l.length, elI l⟩] rfl rfl ⟨hl, trivial⟩ ⟨.inl ⟨rfl, rfl, rfl⟩, trivial, trivial⟩ ?_
  refine G.seqR tfine rfl trivial ?_
  refine G.seq (G.seqC tfine rfl trivial ?_)
  refine GO.callPlain rfl rfl rfl rfl (fun args w => Try.call9 args w) (fun ρ w hm _ => awake_any w) ?_
  refine GO.fin tfine rfl trivial ?_
  refine G.cond_false rfl (G.skip ?_)
  refine G.seq (G.seqR tfine rfl trivial ?_)
  refine G.cond rfl (fun h => ?_) (fun h => ?_)
  · refine G.seqR tfine rfl trivial ?_
    exact G.ret (endK.ret rfl rfl)
  have h := of_decide_eq_false h
  refine G.skip ?_
  refine G.seqC tfine rfl trivial ?_
  refine GO.callRow (n := l.length) (sz := 1) (el := elI l) rfl rfl rfl rfl rfl rfl rfl (fun args w => Try.call19 args w) (fun ρ w hs hok => clone_any A c l w (hs.row rfl (hok _ List.mem_cons_self)) (by unfold maxLen; omega) (by omega) hA) fun A' c' => ?_
  refine GO.more tfine rfl trivial ?_
  refine GO.callPlain rfl rfl rfl rfl (fun args w => Try.call18 args w) (fun ρ w hs hok => mean_any A' c' l k w (hs.row rfl (hok _ List.mem_cons_self)) (by omega)) ?_
  refine GO.fin tfine rfl trivial ?_
  refine G.seqC tfine rfl trivial ?_
  refine GO.callOwn (ty := 3) (n := l.length) (sz := 1) (el := elI l) rfl rfl rfl rfl rfl rfl rfl (fun args w => Try.call19 args w) (fun ρ w hs hok => cloneOwn_any A c l w (hs.row rfl (hok _ List.mem_cons_self)) (by unfold maxLen; omega) (by omega) hA) (fun h0 A2 c2 => ?_) (fun h0 c2 => ?_)
  · omega
  refine GO.fin tfine rfl trivial ?_
  refine G.seqC tfine rfl trivial ?_
  refine GO.callTurnArr (v := .tuple #[]) (x := 23) (elI l.reverse) rfl rfl rfl rfl (fun args w => Try.call21 args w) rfl (fun ρ w hs hok ho h2 => ?_) ?_
  · have := reverse_any (ρ 23).1 c2 l w ho (by omega)
    simpa [AV.conc, AC.conc, h2] using this
  refine GO.fin tfine rfl trivial ?_
  refine G.seqC tfine rfl trivial ?_
  refine GO.callPlain (v := .tuple #[I (mean2 l k).1, I (mean2 l k).2]) rfl rfl rfl rfl (fun args w => Try.call18 args w) (fun ρ w hs hok => ?_) ?_
  · have hrd : RdRow w (some ⟨(ρ 23).1, (ρ 23).2 + 0 * 1, none⟩) l.length 1 (elI l.reverse) := (hs.rdArr (x := 23) rfl 0 l.length (by omega)).congr fun i hi => by rw [Nat.zero_add]
    have := mean_any (some ⟨(ρ 23).1, (ρ 23).2 + 0 * 1, none⟩) c2 l.reverse k w (by rw [List.length_reverse]; exact hrd) (by rw [List.length_reverse]; omega)
    rw [mean_rev, List.length_reverse] at this
    exact this
  refine GO.fin tfine rfl trivial ?_
  refine G.seq (G.seqR tfine rfl ?_ ?_)
  · simp [AllP, condB]
  have hf : (((mean2 l k).1 != (mean2 l k).1) || ((mean2 l k).2 != (mean2 l k).2)) = false := by simp
  rw [hf]
  refine G.cond_false rfl (G.skip ?_)
  refine G.seqC tfine rfl ?_ ?_
  · first | (simp [AllP, condB]; done) | (simp [AllP, condB]; intros; simp_all; done) | (simp [AllP, condB]; intros; simp_all; exact fun h => Decidable.or_iff_not_imp_left.2 h)
  refine GO.callGuard (I (MN l l.length)) rfl rfl rfl (by first | exact trivial | exact ⟨id, trivial⟩ | exact ⟨id, id, trivial⟩) rfl rfl (fun args w => Try.call22 args w) rfl (fun hcb m' hle ρ w hs hok => min_any A c l w (hs.row (hle.at rfl) (hok _ List.mem_cons_self)) (by omega) (by have h9 := hcb; simp [condB] at h9; omega)) ?_
  refine GO.more tfine rfl ?_ ?_
  · first | (simp [AllP, condB]; done) | (simp [AllP, condB]; intros; simp_all; done) | (simp [AllP, condB]; intros; simp_all; exact fun h => Decidable.or_iff_not_imp_left.2 h)
  refine GO.callGuard (I (MX l l.length)) rfl rfl rfl (by first | exact trivial | exact ⟨id, trivial⟩ | exact ⟨id, id, trivial⟩) rfl rfl (fun args w => Try.call23 args w) rfl (fun hcb m' hle ρ w hs hok => max_any A c l w (hs.row (hle.at rfl) (hok _ List.mem_cons_self)) (by omega) (by have h9 := hcb; simp [condB] at h9; omega)) ?_
  refine GO.fin tfine rfl ?_ ?_
  · first | (simp [AllP, condB]; done) | (simp [AllP, condB]; intros; simp_all; done) | (simp [AllP, condB]; intros; simp_all; exact fun h => Decidable.or_iff_not_imp_left.2 h)
  refine G.ret (endK.ret rfl (vb ?_))
  by_cases h9 : (mean2 l k).2 = 0
  · have := mean_ok h9
    simp [h9, this]
  · simp [h9, mean_err h9]
theorem thermalMeans_walk0 (A : Option Addr) (c : Nat) (l : List Int) (k : Int) (w : World) (hl : RdRow w A l.length 1 (elI l)) (hA : A = none → l.length = 0) (hn : ¬ 0 < l.length) :
    Calls Try.prog 8 #[.slice A l.length c, I k] w fun e w' => e = .returned (.bool true) ∧ Below w.heap.size w w' := by
  refine enterPlain tfine Try.func8 rfl 67 Try.ntmps8 [.c (.inp 1000 A l.length c), .c (.k (I k))] [⟨1000, A, 1, l.length, elI l⟩] rfl rfl ⟨hl, trivial⟩ ⟨.inl ⟨rfl, rfl, rfl⟩, trivial, trivial⟩ ?_
  refine G.seqR tfine rfl trivial ?_
  refine G.seq (G.seqC tfine rfl trivial ?_)
  refine GO.callPlain rfl rfl rfl rfl (fun args w => Try.call9 args w) (fun ρ w hm _ => awake_any w) ?_
  refine GO.fin tfine rfl trivial ?_
  refine G.cond_false rfl (G.skip ?_)
  refine G.seq (G.seqR tfine rfl trivial ?_)
  refine G.cond rfl (fun h => ?_) (fun h => ?_)
  · refine G.seqR tfine rfl trivial ?_
    exact G.ret (endK.ret rfl rfl)
  have h := of_decide_eq_false h
  refine G.skip ?_
  refine G.seqC tfine rfl trivial ?_
  refine GO.callRow (n := l.length) (sz := 1) (el := elI l) rfl rfl rfl rfl rfl rfl rfl (fun args w => Try.call19 args w) (fun ρ w hs hok => clone_any A c l w (hs.row rfl (hok _ List.mem_cons_self)) (by unfold maxLen; omega) (by omega) hA) fun A' c' => ?_
  refine GO.more tfine rfl trivial ?_
  refine GO.callPlain rfl rfl rfl rfl (fun args w => Try.call18 args w) (fun ρ w hs hok => mean_any A' c' l k w (hs.row rfl (hok _ List.mem_cons_self)) (by omega)) ?_
  refine GO.fin tfine rfl trivial ?_
  refine G.seqC tfine rfl trivial ?_
  refine GO.callOwn (ty := 3) (n := l.length) (sz := 1) (el := elI l) rfl rfl rfl rfl rfl rfl rfl (fun args w => Try.call19 args w) (fun ρ w hs hok => cloneOwn_any A c l w (hs.row rfl (hok _ List.mem_cons_self)) (by unfold maxLen; omega) (by omega) hA) (fun h0 A2 c2 => ?_) (fun h0 c2 => ?_)
  rotate_left
  · omega
  refine GO.fin tfine rfl trivial ?_
  refine G.seqC tfine rfl trivial ?_
  refine GO.callPlain (v := .tuple #[]) rfl rfl rfl rfl (fun args w => Try.call21 args w) (fun ρ w hs hok => reverse0_any A2 c2 w) ?_
  refine GO.fin tfine rfl trivial ?_
  refine G.seqC tfine rfl trivial ?_
  refine GO.callPlain (v := .tuple #[I (mean2 l k).1, I (mean2 l k).2]) rfl rfl rfl rfl (fun args w => Try.call18 args w) (fun ρ w hs hok => ?_) ?_
  · have := mean_any A2 c2 [] k w (fun h => absurd h (by decide)) (by decide)
    have e : l = [] := List.length_eq_zero_iff.1 h0
    subst e
    exact this
  refine GO.fin tfine rfl trivial ?_
  refine G.seq (G.seqR tfine rfl ?_ ?_)
  · simp [AllP, condB]
  have hf : (((mean2 l k).1 != (mean2 l k).1) || ((mean2 l k).2 != (mean2 l k).2)) = false := by simp
  rw [hf]
  refine G.cond_false rfl (G.skip ?_)
  refine G.seqC tfine rfl ?_ ?_
  · first | (simp [AllP, condB]; done) | (simp [AllP, condB]; intros; simp_all; done) | (simp [AllP, condB]; intros; simp_all; exact fun h => Decidable.or_iff_not_imp_left.2 h)
  refine GO.callGuard (I (MN l l.length)) rfl rfl rfl (by first | exact trivial | exact ⟨id, trivial⟩ | exact ⟨id, id, trivial⟩) rfl rfl (fun args w => Try.call22 args w) rfl (fun hcb m' hle ρ w hs hok => min_any A c l w (hs.row (hle.at rfl) (hok _ List.mem_cons_self)) (by omega) (by have h9 := hcb; simp [condB] at h9; omega)) ?_
  refine GO.more tfine rfl ?_ ?_
  · first | (simp [AllP, condB]; done) | (simp [AllP, condB]; intros; simp_all; done) | (simp [AllP, condB]; intros; simp_all; exact fun h => Decidable.or_iff_not_imp_left.2 h)
  refine GO.callGuard (I (MX l l.length)) rfl rfl rfl (by first | exact trivial | exact ⟨id, trivial⟩ | exact ⟨id, id, trivial⟩) rfl rfl (fun args w => Try.call23 args w) rfl (fun hcb m' hle ρ w hs hok => max_any A c l w (hs.row (hle.at rfl) (hok _ List.mem_cons_self)) (by omega) (by have h9 := hcb; simp [condB] at h9; omega)) ?_
  refine GO.fin tfine rfl ?_ ?_
  · first | (simp [AllP, condB]; done) | (simp [AllP, condB]; intros; simp_all; done) | (simp [AllP, condB]; intros; simp_all; exact fun h => Decidable.or_iff_not_imp_left.2 h)
  refine G.ret (endK.ret rfl (vb ?_))
  by_cases h9 : (mean2 l k).2 = 0
  · have := mean_ok h9
    simp [h9, this]
  · simp [h9, mean_err h9]
theorem thermalMeans_walk (A : Option Addr) (c : Nat) (l : List Int) (k : Int) (w : World) (hl : RdRow w A l.length 1 (elI l)) (hA : A = none → l.length = 0) :
    Calls Try.prog 8 #[.slice A l.length c, I k] w fun e w' => e = .returned (.bool true) ∧ Below w.heap.size w w' := by
  by_cases h : 0 < l.length
  · exact thermalMeans_walkN A c l k w hl hA h
  · exact thermalMeans_walk0 A c l k w hl hA h
end Go.Proofs.Ytbgbndiokckboaa
