/- Chapter 05: the mean. -/
import Derived.Test.YtbgbndiokckboaaThA
set_option linter.unusedVariables false
set_option linter.unusedSimpArgs false
set_option maxRecDepth 8000
namespace Go.Proofs.Ytbgbndiokckboaa
open Go.Sx Go.RowKit
def cold (t : Int) : Bool := !thermal_heat t
theorem cold_any (t : Int) (w : World) : Calls Try.prog 35 #[I t] w fun e w' => e = .returned (.bool (cold t)) ∧ Below w.heap.size w w' := by
  refine enterPlain tfine Try.func35 rfl 6 Try.ntmps35 [.c (.k (I t))] [] rfl rfl trivial ⟨trivial, trivial⟩ ?_
  refine G.seqR tfine rfl trivial ?_
  refine G.seqC tfine rfl trivial ?_
  refine GO.callPlain rfl rfl rfl rfl (fun args w => Try.call25 args w) (fun ρ w hm _ => thermal_heat_any _ w) ?_
  refine GO.fin tfine rfl trivial ?_
  exact G.ret (endK.ret rfl (vb rfl))
theorem cold_false {l : List Int} (h : l.any cold = false) : ∀ x ∈ l, -400 ≤ x ∧ x ≤ 600 := by
  intro x hx
  have := List.any_eq_false.1 h x hx
  simpa [cold, thermal_heat] using this
theorem sum_all {l : List Int} (h : ∀ x ∈ l, -400 ≤ x ∧ x ≤ 600) (hm : l.length ≤ 64) (k : Nat) : -64000 ≤ (l.take k).sum ∧ (l.take k).sum ≤ 64000 := by
  have hb := sum_bound id 1000 (l.take k) fun x hx => by have := h x (List.mem_of_mem_take hx); show -1000 ≤ x ∧ x ≤ 1000; omega
  rw [List.map_id] at hb
  have hl : (l.take k).length ≤ 64 := by simp; omega
  omega
theorem take_sum (l : List Int) (k : Nat) (h : k < l.length) : (l.take (k + 1)).sum = (l.take k).sum + l.getD k 0 := by
  have := sum_take id l k h
  rw [List.map_id, List.map_id] at this
  exact this
theorem thSum_any (A : Option Addr) (c : Nat) (l : List Int) (w : World) (hl : RdRow w A l.length 1 (elI l)) (hm : l.length ≤ 64) (hh : ∀ x ∈ l, -400 ≤ x ∧ x ≤ 600) :
    Calls Try.prog 37 #[.slice A l.length c] w fun e w' => e = .returned (I l.sum) ∧ Below w.heap.size w w' := by
  refine enterPlain tfine Try.func37 rfl 17 Try.ntmps37 [.c (.inp 1000 A l.length c)] [⟨1000, A, 1, l.length, elI l⟩] rfl rfl ⟨hl, trivial⟩ ⟨.inl ⟨rfl, rfl, rfl⟩, trivial⟩ ?_
  refine G.seqR tfine rfl trivial ?_
  refine G.seqR tfine rfl trivial ?_
  refine G.seq (G.seqR tfine rfl trivial ?_)
  refine G.block (G.loop (fun k : Nat => St.of [(3, .v (.c (.k (I (l.take k).sum)))), (6, .v (.c (.inp 1000 A l.length c))), (7, .v (.c (.k (I l.length)))), (8, .v (.c (.k (I k))))] [(1000, .ro 1 l.length (elI l))])
    (fun k => k ≤ l.length) (fun k => l.length - k) 0 (by omega) (St.le_of rfl ⟨⟨_, rfl, Blk.le_refl _⟩, trivial⟩ ⟨rfl, rfl, rfl, rfl, trivial⟩) ?_)
  intro k hk
  refine G.seqR tfine rfl trivial ?_
  refine G.seq (G.cond rfl (fun h => ?_) (fun h => ?_))
  rotate_left
  · have h := of_decide_eq_false h
    have : k = l.length := by omega
    subst this
    refine G.exit ?_
    refine G.seqR tfine rfl trivial ?_
    refine G.ret (endK.ret rfl ?_)
    rw [List.take_length]
  have h := of_decide_eq_true h
  have hlt : k < l.length := by omega
  refine G.skip ?_
  refine G.seq (G.block ?_)
  refine G.seqR tfine rfl ⟨by simpa using hlt, by omega, by omega, trivial⟩ ?_
  rw [Int.toNat_natCast]
  refine G.reg tfine rfl trivial ?_
  have h1 := sum_all hh hm k
  have h2 := hh (l.getD k 0) (by rw [List.getD_eq_getElem?_getD, List.getElem?_eq_getElem hlt]; exact List.getElem_mem hlt)
  refine G.reg tfine rfl trivial ?_
  rw [IntWalk.i64_in ((l.take k).sum + _) (by omega), IntWalk.i64_in ((k : Int) + 1) (by omega), ← take_sum l k hlt]
  exact ⟨k + 1, hlt, (by show l.length - (k + 1) < l.length - k; omega), St.le_of rfl ⟨⟨_, rfl, Blk.le_refl _⟩, trivial⟩ ⟨rfl, rfl, rfl, rfl, trivial⟩⟩
def mean2 (l : List Int) (rule : Int) : Int × Int := if (!isB rule) = true then (0, 1) else if ((l.length : Int) == 0) = true then (0, 9) else if decide ((l.length : Int) > 64) = true then (0, 8) else if l.any cold = true then (0, 2) else ((quo3 l.sum l.length rule).1, (quo3 l.sum l.length rule).2.2)
theorem mean_any (A : Option Addr) (c : Nat) (l : List Int) (rule : Int) (w : World) (hl : RdRow w A l.length 1 (elI l)) (hm : l.length ≤ 4611686018427387904) :
    Calls Try.prog 18 #[.slice A l.length c, I rule] w fun e w' => e = .returned (.tuple #[I (mean2 l rule).1, I (mean2 l rule).2]) ∧ Below w.heap.size w w' := by
  refine enterPlain tfine Try.func18 rfl 36 Try.ntmps18 [.c (.inp 1000 A l.length c), .c (.k (I rule))] [⟨1000, A, 1, l.length, elI l⟩] rfl rfl ⟨hl, trivial⟩ ⟨.inl ⟨rfl, rfl, rfl⟩, trivial, trivial⟩ ?_
  refine G.seqR tfine rfl trivial ?_
  refine G.seq (G.block ?_)
  refine G.seqC tfine rfl trivial ?_
  refine GO.callPlain rfl rfl rfl rfl (fun args w => Try.call33 args w) (fun ρ w hm _ => thRule_any _ w) ?_
  refine GO.fin tfine rfl trivial ?_
  refine G.cond rfl (fun h1 => ?_) (fun h1 => ?_)
  · refine G.seqR tfine rfl trivial ?_
    refine G.ret (endK.ret rfl ?_)
    rw [mean2, h1]; rfl
  refine G.seqR tfine rfl trivial ?_
  refine G.cond rfl (fun h2 => ?_) (fun h2 => ?_)
  · refine G.seqR tfine rfl trivial ?_
    refine G.ret (endK.ret rfl ?_)
    rw [mean2, h1, h2]; rfl
  refine G.seqR tfine rfl trivial ?_
  refine G.cond rfl (fun h3 => ?_) (fun h3 => ?_)
  · refine G.seqR tfine rfl trivial ?_
    refine G.ret (endK.ret rfl ?_)
    rw [mean2, h1, h2, h3]; rfl
  refine G.seqC tfine rfl trivial ?_
  refine GO.callPlain rfl rfl rfl rfl (fun args w => Try.call34 args w) (fun ρ w hs hok => containsFunc_any 35 cold (fun args w => Try.call35 args w) cold_any A c l w (hs.row rfl (hok _ List.mem_cons_self)) hm) ?_
  refine GO.fin tfine rfl trivial ?_
  rw [firstI_any, any_getD]
  refine G.cond rfl (fun h4 => ?_) (fun h4 => ?_)
  · refine G.seqR tfine rfl trivial ?_
    refine G.ret (endK.ret rfl ?_)
    rw [mean2, h1, h2, h3, h4]; rfl
  refine G.skip ?_
  have h3' := of_decide_eq_false h3
  have h4' := cold_false h4
  refine G.seqC tfine rfl trivial ?_
  refine GO.callPlain rfl rfl rfl rfl (fun args w => Try.call37 args w) (fun ρ w hs hok => thSum_any A c l w (hs.row rfl (hok _ List.mem_cons_self)) (by omega) h4') ?_
  refine GO.more tfine rfl trivial ?_
  refine GO.callPlain rfl rfl rfl rfl (fun args w => Try.call36 args w) (fun ρ w hs hok => quotient_any _ _ _ w) ?_
  refine GO.fin tfine rfl trivial ?_
  refine G.seqR tfine rfl trivial ?_
  refine G.ret (endK.ret rfl ?_)
  rw [mean2, h1, h2, h3, h4]; rfl
theorem refMean_any (A : Option Addr) (c : Nat) (l : List Int) (rule : Int) (w : World) (hl : RdRow w A l.length 1 (elI l)) (hm : l.length ≤ 4611686018427387904) :
    Calls Try.prog 20 #[.slice A l.length c, I rule] w fun e w' => e = .returned (.tuple #[I (mean2 l rule).1, I (mean2 l rule).2]) ∧ Below w.heap.size w w' := by
  refine enterPlain tfine Try.func20 rfl 48 Try.ntmps20 [.c (.inp 1000 A l.length c), .c (.k (I rule))] [⟨1000, A, 1, l.length, elI l⟩] rfl rfl ⟨hl, trivial⟩ ⟨.inl ⟨rfl, rfl, rfl⟩, trivial, trivial⟩ ?_
  refine G.seqR tfine rfl trivial ?_
  refine G.seq (G.seqC tfine rfl trivial ?_)
  refine GO.callPlain rfl rfl rfl rfl (fun args w => Try.call38 args w) (fun ρ w hm _ => refIs_any _ w) ?_
  refine GO.fin tfine rfl trivial ?_
  refine G.cond rfl (fun h1 => ?_) (fun h1 => ?_)
  · refine G.seqR tfine rfl trivial ?_
    refine G.ret (endK.ret rfl ?_)
    rw [mean2, h1]; rfl
  refine G.skip ?_
  refine G.seq (G.seqR tfine rfl trivial ?_)
  refine G.cond rfl (fun h2 => ?_) (fun h2 => ?_)
  · refine G.seqR tfine rfl trivial ?_
    refine G.ret (endK.ret rfl ?_)
    rw [mean2, h1, h2]; rfl
  refine G.skip ?_
  refine G.seq (G.seqR tfine rfl trivial ?_)
  refine G.cond rfl (fun h3 => ?_) (fun h3 => ?_)
  · refine G.seqR tfine rfl trivial ?_
    refine G.ret (endK.ret rfl ?_)
    rw [mean2, h1, h2, h3]; rfl
  refine G.skip ?_
  have h3' := of_decide_eq_false h3
  refine G.seqR tfine rfl trivial ?_
  refine G.seq (G.seqR tfine rfl trivial ?_)
  refine G.block (G.loop (fun k : Nat => St.of [(0, .v (.c (.inp 1000 A l.length c))), (1, .v (.c (.k (I rule)))), (6, .v (.c (.k (I (l.take k).sum)))), (7, .v (.c (.k (I k))))] [(1000, .ro 1 l.length (elI l))])
    (fun k => k ≤ l.length ∧ (l.take k).any cold = false) (fun k => l.length - k) 0 ⟨by omega, rfl⟩ (St.le_of rfl ⟨⟨_, rfl, Blk.le_refl _⟩, trivial⟩ ⟨rfl, rfl, rfl, rfl, trivial⟩) ?_)
  rintro k ⟨hk, hpre⟩
  refine G.seq (G.seqR tfine rfl trivial ?_)
  refine G.cond rfl (fun h => ?_) (fun h => ?_)
  rotate_left
  · have h := of_decide_eq_false h
    have : k = l.length := by omega
    subst this
    refine G.exit ?_
    rw [List.take_length] at hpre ⊢
    refine G.seqC tfine rfl trivial ?_
    refine GO.callPlain rfl rfl rfl rfl (fun args w => Try.call39 args w) (fun ρ w hm _ => refQuotient_any _ _ _ w) ?_
    refine GO.fin tfine rfl trivial ?_
    refine G.seqR tfine rfl trivial ?_
    refine G.ret (endK.ret rfl ?_)
    have hs := sum_all (cold_false hpre) (by omega) l.length
    rw [List.take_length] at hs
    have hlen : l.length ≠ 0 := by simpa using h2
    have e : (quo3 l.sum l.length rule).2.2 = 0 := by
      unfold quo3
      rw [if_neg (by rw [h1]; simp), if_neg (by simp [divB]; omega)]
    rw [mean2, h1, h2, h3, hpre]
    simp only [Bool.false_eq_true, if_false, e]
  have h := of_decide_eq_true h
  have hlt : k < l.length := by omega
  refine G.skip ?_
  refine G.seq (G.block ?_)
  refine G.seq (G.seqC tfine rfl ⟨by simpa using hlt, by omega, by omega, trivial⟩ ?_)
  rw [Int.toNat_natCast]
  refine GO.callPlain rfl rfl rfl rfl (fun args w => Try.call26 args w) (fun ρ w hm _ => spileref05_IsHeat_any _ w) ?_
  refine GO.fin tfine rfl trivial ?_
  refine G.cond rfl (fun h4 => ?_) (fun h4 => ?_)
  · refine G.seqR tfine rfl trivial ?_
    refine G.ret (endK.ret rfl ?_)
    have : l.any cold = true := List.any_eq_true.2 ⟨l.getD k 0, by rw [List.getD_eq_getElem?_getD, List.getElem?_eq_getElem hlt]; exact List.getElem_mem hlt, h4⟩
    rw [mean2, h1, h2, h3, this]; rfl
  refine G.skip ?_
  have hpre' : (l.take (k + 1)).any cold = false := by
    rw [List.take_succ_eq_append_getElem hlt, List.any_append, hpre, List.any_cons, List.any_nil, Bool.or_false, Bool.false_or]
    have : cold (l.getD k 0) = false := h4
    rw [List.getD_eq_getElem?_getD, List.getElem?_eq_getElem hlt] at this
    exact this
  have hs := cold_false hpre'
  have h6 : -64000 ≤ (l.take (k + 1)).sum ∧ (l.take (k + 1)).sum ≤ 64000 := by
    have := sum_all hs (by simp; omega) (k + 1)
    rwa [List.take_take, Nat.min_self] at this
  refine G.reg tfine rfl ⟨by simpa using hlt, by omega, by omega, trivial⟩ ?_
  rw [Int.toNat_natCast, IntWalk.i64_in ((l.take k).sum + _) (by rw [← take_sum l k hlt]; omega)]
  refine G.reg tfine rfl trivial ?_
  rw [IntWalk.i64_in ((k : Int) + 1) (by omega), ← take_sum l k hlt]
  exact ⟨k + 1, ⟨hlt, hpre'⟩, (by show l.length - (k + 1) < l.length - k; omega), St.le_of rfl ⟨⟨_, rfl, Blk.le_refl _⟩, trivial⟩ ⟨rfl, rfl, rfl, rfl, trivial⟩⟩
end Go.Proofs.Ytbgbndiokckboaa
