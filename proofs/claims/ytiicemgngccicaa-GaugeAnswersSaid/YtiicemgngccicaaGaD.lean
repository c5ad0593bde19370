/- Chapter 15: the bounds of the wet volume. -/
import Derived.Test.YtiicemgngccicaaGaC
set_option linter.unusedVariables false
set_option linter.unusedSimpArgs false
set_option maxRecDepth 8000
set_option maxHeartbeats 1000000
namespace Go.Proofs.Ytiicemgngccicaa
open Go.Sx Go.RowKit
def idx (l : List (Int × Int)) (h : Int) : Nat := l.findIdx fun m => decide (m.1 ≥ h)
theorem idx_of {l : List (Int × Int)} {h : Int} {k : Nat} (hk : k < l.length) (h1 : h ≤ (l.getD k (0, 0)).1) (h2 : ∀ j, j < k → (l.getD j (0, 0)).1 < h) : idx l h = k := by
  have e : ∀ j (hj : j < l.length), l.getD j (0, 0) = l[j] := fun j hj => by rw [List.getD_eq_getElem?_getD, List.getElem?_eq_getElem hj]; rfl
  rw [e k hk] at h1
  have hlt : idx l h < l.length := List.findIdx_lt_length_of_exists ⟨l[k], List.getElem_mem hk, by simpa using h1⟩
  rcases Nat.lt_trichotomy (idx l h) k with h3 | h3 | h3
  · have h4 := h2 _ h3
    rw [e _ hlt] at h4
    have := List.findIdx_getElem (p := fun m : Int × Int => decide (m.1 ≥ h)) (w := hlt)
    have := of_decide_eq_true this
    simp only [idx] at h4
    omega
  · exact h3
  · have := List.not_of_lt_findIdx h3
    simp at this
    omega
def wet3 (l : List (Int × Int)) (tol h : Int) : Int × Int × Int := if (readE l tol h != 0) = true then (0, 0, readE l tol h) else ((if (l.getD (idx l h) (0, 0)).1 ≤ h then (l.getD (idx l h) (0, 0)).2 else (l.getD (idx l h - 1) (0, 0)).2), (l.getD (idx l h) (0, 0)).2 + tol, 0)
theorem readE_ok {l : List (Int × Int)} {tol h : Int} (hz : readE l tol h = 0) : tabE l tol = 0 ∧ (l.getD 0 (0, 0)).1 ≤ h ∧ h ≤ (l.getD (l.length - 1) (0, 0)).1 := by
  unfold readE at hz
  split at hz
  · cases hz
  rename_i h1
  split at hz
  · cases hz
  rename_i h2
  have h2' : ¬ h < (l.getD 0 (0, 0)).1 ∧ ¬ h > (l.getD (l.length - 1) (0, 0)).1 := by simpa [outR] using h2
  exact ⟨by simpa using h1, by omega, by omega⟩
def lowI (l : List (Int × Int)) (k : Nat) : Int := if k = 0 then 0 else (l.getD (k - 1) (0, 0)).2
theorem wet_any (A : Option Addr) (c : Nat) (l : List (Int × Int)) (tol h : Int) (w : World) (hl : RdRow w A l.length 2 (elM l)) (hm : l.length ≤ 4611686018427387904) :
    Calls Try.prog 11 #[.agg #[.slice A l.length c, I tol], I h] w fun e w' => e = .returned (.tuple #[.agg #[I (wet3 l tol h).1, I (wet3 l tol h).2.1], I (wet3 l tol h).2.2]) ∧ Below w.heap.size w w' := by
  refine enterPlain tfine Try.func11 rfl 47 Try.ntmps11 [.agg [.inp 1000 A l.length c, .k (I tol)], .c (.k (I h))] [⟨1000, A, 2, l.length, elM l⟩] rfl rfl ⟨hl, trivial⟩ ⟨⟨.inl ⟨rfl, rfl, rfl⟩, trivial, trivial⟩, trivial, trivial⟩ ?_
  refine G.seqR tfine rfl trivial ?_
  refine G.seq (G.seqC tfine rfl trivial ?_)
  refine GO.callEx (fun v => ∃ z, v = .tuple #[I z, I (readE l tol h)]) rfl rfl rfl rfl (fun args w => Try.call32 args w) (fun ρ w hs hok => read_any A c l tol h w (hs.row (cap := c) rfl (hok _ List.mem_cons_self _ List.mem_cons_self)) hm) ?_
  rintro _ ⟨z, rfl⟩
  refine GO.fin tfine rfl trivial ?_
  refine G.seqR tfine rfl trivial ?_
  refine G.cond rfl (fun h1 => ?_) (fun h1 => ?_)
  · refine G.seqR tfine rfl trivial ?_
    refine G.ret (endK.ret rfl ?_)
    rw [wet3, if_pos h1]
  refine G.skip ?_
  have hz : readE l tol h = 0 := by simpa using h1
  obtain ⟨ht, hlo, hhi⟩ := readE_ok hz
  obtain ⟨q1, q2, q3, q4, q5⟩ := tabE_ok ht
  refine G.seqR tfine rfl trivial ?_
  refine G.seq (G.seqR tfine rfl trivial ?_)
  refine G.block (G.loop (fun k : Nat => St.of [(1, .v (.c (.k (I h)))), (2, .v (.c (.ptr 2 0 0 0))), (4, .v (.c (.ptr 4 0 0 0))), (5, .v (.c (.k (I 0)))), (8, .v (.c (.ptr 8 0 0 0))), (22, .v (.c (.inp 1000 A l.length c))), (23, .v (.c (.k (I l.length)))), (24, .v (.c (.k (I k))))]
      [(2, .var 24 [.inp 1000 A l.length c, .k (I tol)]), (4, .var 30 [.k (I 0), .k (I 0)]), (8, .var 30 [.k (I (lowI l k)), .k (I 0)]), (1000, .ro 2 l.length (elM l))])
    (fun k => k ≤ l.length ∧ ∀ j, j < k → (l.getD j (0, 0)).1 < h) (fun k => l.length - k) 0 ⟨by omega, fun j h5 => by omega⟩
    (St.le_of rfl ⟨⟨_, rfl, Blk.le_refl _⟩, ⟨_, rfl, Blk.le_refl _⟩, ⟨_, rfl, Blk.le_refl _⟩, ⟨_, rfl, Blk.le_refl _⟩, trivial⟩ ⟨rfl, rfl, rfl, rfl, rfl, rfl, rfl, rfl, trivial⟩) ?_)
  rintro k ⟨hk2, hpre⟩
  refine G.seqR tfine rfl trivial ?_
  refine G.seq (G.cond rfl (fun h2 => ?_) (fun h2 => ?_))
  rotate_left
  · have h2 := of_decide_eq_false h2
    have := hpre (l.length - 1) (by omega)
    omega
  have h2 := of_decide_eq_true h2
  have hlt : k < l.length := by omega
  have hb := q4 k hlt
  refine G.skip ?_
  refine G.seq (G.block ?_)
  refine G.seqR tfine rfl ?_ ?_
  · simp [AllP]; omega
  rw [Int.toNat_natCast]
  refine G.seq (G.seqR tfine rfl trivial ?_)
  have fin : ¬ (l.getD k (0, 0)).1 < h → wet3 l tol h = ((if (l.getD k (0, 0)).1 ≤ h then (l.getD k (0, 0)).2 else (l.getD (k - 1) (0, 0)).2), (l.getD k (0, 0)).2 + tol, 0) := by
    intro h6
    rw [wet3, if_neg (fne h1), idx_of hlt (by omega) hpre]
  refine G.cond rfl (fun h3 => ?_) (fun h3 => ?_)
  · refine G.reg tfine rfl trivial ?_
    have h3 := of_decide_eq_true h3
    refine G.seqR tfine rfl trivial ?_
    refine G.cond rfl (fun h4 => ?_) (fun h4 => ?_)
    · have h4 := of_decide_eq_true h4
      refine G.seqR tfine rfl trivial ?_
      rw [IntWalk.i64_in ((l.getD k (0, 0)).2 + tol) (by omega)]
      refine G.exit ?_
      refine G.seqR tfine rfl trivial ?_
      refine G.ret (endK.ret rfl ?_)
      rw [fin (by omega), if_pos h3]
    · have h4 := of_decide_eq_false h4
      refine G.skip ?_
      refine G.reg tfine rfl trivial ?_
      rw [IntWalk.i64_in ((k : Int) + 1) (by omega)]
      refine ⟨k + 1, ⟨hlt, fun j h8 => ?_⟩, (by show l.length - (k + 1) < l.length - k; omega), St.le_of rfl ⟨⟨_, rfl, Blk.le_refl _⟩, ⟨_, rfl, Blk.le_refl _⟩, ⟨_, rfl, Blk.le_refl _⟩, ⟨_, rfl, Blk.le_refl _⟩, trivial⟩ ⟨rfl, rfl, rfl, rfl, rfl, rfl, rfl, rfl, trivial⟩⟩
      by_cases e : j = k
      · rw [e]; omega
      · exact hpre j (by omega)
  · refine G.skip ?_
    have h3 := of_decide_eq_false h3
    refine G.seqR tfine rfl trivial ?_
    refine G.cond rfl (fun h4 => ?_) (fun h4 => ?_)
    · refine G.seqR tfine rfl trivial ?_
      rw [IntWalk.i64_in ((l.getD k (0, 0)).2 + tol) (by omega)]
      refine G.exit ?_
      refine G.seqR tfine rfl trivial ?_
      refine G.ret (endK.ret rfl ?_)
      have hk0 : k ≠ 0 := fun e => by subst e; omega
      rw [fin (by omega), if_neg h3, lowI, if_neg hk0]
    · have h4 := of_decide_eq_false h4
      omega
theorem refWet_any (A : Option Addr) (c : Nat) (l : List (Int × Int)) (tol h : Int) (w : World) (hl : RdRow w A l.length 2 (elM l)) (hm : l.length ≤ 4611686018427387904) :
    Calls Try.prog 13 #[.agg #[.slice A l.length c, I tol], I h] w fun e w' => e = .returned (.tuple #[.agg #[I (wet3 l tol h).1, I (wet3 l tol h).2.1], I (wet3 l tol h).2.2]) ∧ Below w.heap.size w w' := by
  refine enterPlain tfine Try.func13 rfl 76 Try.ntmps13 [.agg [.inp 1000 A l.length c, .k (I tol)], .c (.k (I h))] [⟨1000, A, 2, l.length, elM l⟩] rfl rfl ⟨hl, trivial⟩ ⟨⟨.inl ⟨rfl, rfl, rfl⟩, trivial, trivial⟩, trivial, trivial⟩ ?_
  refine G.seqR tfine rfl trivial ?_
  refine G.seq (G.seqC tfine rfl trivial ?_)
  refine GO.callPlain (v := I (tabE l tol)) rfl rfl rfl rfl (fun args w => Try.call33 args w) (fun ρ w hs hok => ref13Check_any A c l tol w (hs.row (cap := c) rfl (hok _ List.mem_cons_self _ List.mem_cons_self)) hm) ?_
  refine GO.fin tfine rfl trivial ?_
  refine G.cond rfl (fun h1 => ?_) (fun h1 => ?_)
  · refine G.seqR tfine rfl trivial ?_
    refine G.ret (endK.ret rfl ?_)
    have : readE l tol h = 1 := by rw [readE, if_pos h1]
    rw [wet3, this]; rfl
  refine G.skip ?_
  have ht : tabE l tol = 0 := by simpa using h1
  obtain ⟨q1, q2, q3, q4, q5⟩ := tabE_ok ht
  have e1 : IntKind.i64.wrap ((l.length : Int) - 1) = (l.length : Int) - 1 := IntWalk.i64_in _ (by omega)
  have e2 : ((l.length : Int) - 1).toNat = l.length - 1 := by omega
  refine G.seq (G.seqR tfine rfl ?_ ?_)
  · rw [e1]
    simp [AllP, condB]
    omega
  rw [e1, e2]
  refine G.cond (b := outR l h) rfl (fun h2 => ?_) (fun h2 => ?_)
  · refine G.seqR tfine rfl trivial ?_
    refine G.ret (endK.ret rfl ?_)
    have : readE l tol h = 2 := by rw [readE, if_neg (fne h1), if_pos h2]
    rw [wet3, this]; rfl
  refine G.skip ?_
  have hz : readE l tol h = 0 := by rw [readE, if_neg (fne h1), if_neg (fne h2)]
  obtain ⟨_, hlo, hhi⟩ := readE_ok hz
  refine G.seqR tfine rfl trivial ?_
  refine G.seq (G.block (G.loop (fun k : Nat => St.of [(1, .v (.c (.k (I h)))), (2, .v (.c (.ptr 2 0 0 0))), (4, .v (.c (.ptr 4 0 0 0))), (5, .v (.c (.k (I 0)))), (6, .v (.c (.k (I k))))]
      [(2, .var 24 [.inp 1000 A l.length c, .k (I tol)]), (4, .var 30 [.k (I 0), .k (I 0)]), (1000, .ro 2 l.length (elM l))])
    (fun k => k < l.length ∧ ∀ j, j < k → (l.getD j (0, 0)).1 < h) (fun k => l.length - k) 0 ⟨by omega, fun j h5 => by omega⟩
    (St.le_of rfl ⟨⟨_, rfl, Blk.le_refl _⟩, ⟨_, rfl, Blk.le_refl _⟩, ⟨_, rfl, Blk.le_refl _⟩, trivial⟩ ⟨rfl, rfl, rfl, rfl, rfl, trivial⟩) ?_))
  rintro k ⟨hlt, hpre⟩
  have hb := q4 k hlt
  refine G.seq (G.seqR tfine rfl ?_ ?_)
  · simp [AllP]; omega
  rw [Int.toNat_natCast]
  refine G.cond rfl (fun h6 => ?_) (fun h6 => ?_)
  · have h6 := of_decide_eq_true h6
    refine G.skip ?_
    refine G.block ?_
    refine G.reg tfine rfl trivial ?_
    rw [IntWalk.i64_in ((k : Int) + 1) (by omega)]
    have : k ≠ l.length - 1 := fun e => by rw [← e] at hhi; omega
    refine ⟨k + 1, ⟨by omega, fun j h8 => ?_⟩, (by show l.length - (k + 1) < l.length - k; omega), St.le_of rfl ⟨⟨_, rfl, Blk.le_refl _⟩, ⟨_, rfl, Blk.le_refl _⟩, ⟨_, rfl, Blk.le_refl _⟩, trivial⟩ ⟨rfl, rfl, rfl, rfl, rfl, trivial⟩⟩
    by_cases e : j = k
    · rw [e]; omega
    · exact hpre j (by omega)
  have h6 := of_decide_eq_false h6
  have fin : wet3 l tol h = ((if (l.getD k (0, 0)).1 ≤ h then (l.getD k (0, 0)).2 else (l.getD (k - 1) (0, 0)).2), (l.getD k (0, 0)).2 + tol, 0) := by
    rw [wet3, if_neg (by rw [hz]; decide), idx_of hlt (by omega) hpre]
  refine G.exit ?_
  refine G.seqD tfine hmix [0, 1, 0, 7, 15, 31, 0, 64, 0, 448, 960, 1984, 0, 4096, 16320, 32767, 0, 131071] [(17, 7)] rfl rfl rfl rfl ?_ ?_
  · simp [AllP]
    omega
  rw [Int.toNat_natCast, IntWalk.i64_in ((l.getD k (0, 0)).2 + tol) (by omega)]
  refine G.seq (G.seqR tfine rfl ?_ ?_)
  · simp [AllP]
    omega
  rw [Int.toNat_natCast]
  refine G.cond rfl (fun h7 => ?_) (fun h7 => ?_)
  · have h7 := of_decide_eq_true h7
    have hk0 : k ≠ 0 := fun e => by subst e; omega
    have e3 : IntKind.i64.wrap ((k : Int) - 1) = (k : Int) - 1 := IntWalk.i64_in _ (by omega)
    have e4 : ((k : Int) - 1).toNat = k - 1 := by omega
    refine G.reg tfine rfl ?_ ?_
    · rw [e3]
      simp [AllP]
      omega
    rw [e3, e4]
    refine G.seqR tfine rfl trivial ?_
    refine G.ret (endK.ret rfl ?_)
    rw [fin, if_neg (by omega)]
  · have h7 := of_decide_eq_false h7
    refine G.skip ?_
    refine G.seqR tfine rfl trivial ?_
    refine G.ret (endK.ret rfl ?_)
    rw [fin, if_pos (by omega)]
end Go.Proofs.Ytiicemgngccicaa
