/- Chapter 05: a copied row turned round; the least and the greatest of a row; means. -/
import Derived.Test.YtbgbndiokckboaaThLaws
import Derived.Test.YtbgbndiokckboaaSxV
set_option linter.unusedVariables false
set_option linter.unusedSimpArgs false
set_option maxRecDepth 8000
namespace Go.Proofs.Ytbgbndiokckboaa
open Go.Sx Go.RowKit
theorem cloneOwn_any (A : Option Addr) (c : Nat) (l : List Int) (w : World) (hl : RdRow w A l.length 1 (elI l)) (hm : l.length ≤ maxLen) (hy : l.length * 8 ≤ 140737488355328) (hA : A = none → l.length = 0) :
    Calls Try.prog 19 #[.slice A l.length c] w fun e w' => ∃ v, e = .returned v ∧ RdOwn w w' v 3 l.length 1 (elI l) ∧ Below w.heap.size w w' := by
  refine enterOwn tfine 3 l.length 1 (elI l) Try.func19 rfl 8 Try.ntmps19 [.c (.inp 1000 A l.length c)] [⟨1000, A, 1, l.length, elI l⟩] rfl rfl ⟨hl, trivial⟩ ⟨.inl ⟨rfl, rfl, rfl⟩, trivial⟩ ?_
  refine G.seqR tfine rfl trivial ?_
  refine G.seq (G.seqR tfine rfl trivial ?_)
  refine G.cond rfl (fun h => ?_) (fun h => ?_)
  · refine G.seqR tfine rfl trivial ?_
    have : A = none := by cases A <;> simp at h ⊢
    refine G.ret (endOwn.ret rfl ⟨rfl, hA this⟩)
  refine G.skip ?_
  refine G.seqC tfine rfl trivial ?_
  refine GO.emptySlice tfine rfl rfl rfl rfl rfl rfl rfl fun A0 => ?_
  refine GO.more tfine rfl trivial ?_
  refine GO.appendNew (elI l) apT35 rfl rfl rfl rfl rfl rfl rfl rfl (RowOf.ro rfl) (fun k hk => rfl) (fun i hi u hu => by simp [elI] at hu; subst hu; rfl) hm hy (fun h0 => ?_) fun h0 c' hc' => ?_
  · refine GO.fin tfine rfl trivial ?_
    exact G.ret (endOwn.ret rfl ⟨rfl, h0⟩)
  · refine GO.fin tfine rfl trivial ?_
    exact G.ret (endOwn.ret rfl ⟨rfl, rfl, rfl, rfl, rfl, Nat.le_refl _, fun i hi => rfl⟩)
def rvI (l : List Int) (k i : Nat) : Int := if i < k ∨ l.length ≤ i + k then l.getD (l.length - 1 - i) 0 else l.getD i 0
theorem rev_getD (l : List Int) (i : Nat) (h : i < l.length) : l.reverse.getD i 0 = l.getD (l.length - 1 - i) 0 := by
  rw [List.getD_eq_getElem?_getD, List.getD_eq_getElem?_getD, List.getElem?_reverse h]
theorem reverse_any (b c : Nat) (l : List Int) (w : World) (ho : OwnAt w b 3 l.length 1 (elI l) 0) (hm : l.length ≤ 4611686018427387904) :
    Calls Try.prog 21 #[.slice (some ⟨b, 0, none⟩) l.length c] w fun e w' => e = .returned (.tuple #[]) ∧ Fr w [b] w' ∧ OwnAt w' b 3 l.length 1 (elI l.reverse) 0 := by
  refine enterTurn tfine 3 l.length 1 (elI l) (elI l.reverse) 0 Try.func21 rfl 28 Try.ntmps21 [.c (.slc 1000 0 1 l.length c)] ho rfl rfl ⟨rfl, trivial⟩ ?_
  refine G.seqR tfine rfl trivial ?_
  rw [IntWalk.i64_in _ (by omega)]
  refine G.block (G.loop (fun k : Nat => St.of [(0, .v (.c (.slc 1000 0 1 l.length c))), (2, .v (.c (.k (I k)))), (3, .v (.c (.k (I ((l.length : Int) - 1 - k)))))] [(1000, .arr 3 1 l.length (fun i => [I (rvI l k i)]) 0)])
    (fun k => k ≤ l.length) (fun k => l.length - k) 0 (by omega) (St.le_of rfl ⟨⟨_, rfl, rfl, rfl, Nat.le_refl _, fun i hi => ?_, Nat.le_refl _⟩, trivial⟩ ⟨rfl, rfl, ?_, trivial⟩) ?_)
  · simp [rvI, elI]; omega
  · simp [argsT, up, I]
  intro k hk
  refine G.seq (G.seqR tfine rfl trivial ?_)
  refine G.cond rfl (fun h => ?_) (fun h => ?_)
  rotate_left
  · have h := of_decide_eq_false h
    refine G.exit (endTurn.norm rfl rfl rfl fun i hi => ?_)
    show [I (rvI l k i)] = [I (l.reverse.getD i 0)]
    rw [rev_getD l i hi]
    unfold rvI
    split
    · rfl
    · congr 3; omega
  have h := of_decide_eq_true h
  have hlt : k + k + 1 < l.length := by omega
  refine G.skip ?_
  refine G.seq (G.block ?_)
  refine G.regD tfine hmix [0, 0, 0, 0, 0, 0, 48, 112, 0, 0, 768, 1792, 4083, 8179, 16383, 32767] [(13, 1000), (15, 1000)] rfl rfl rfl rfl ?_ ?_
  · simp [AllP]; omega
  refine G.reg tfine rfl trivial ?_
  have e1 : 0 + (k : Int).toNat = k := by omega
  have e2 : 0 + ((l.length : Int) - 1 - k).toNat = l.length - 1 - k := by omega
  rw [IntWalk.i64_in ((k : Int) + 1) (by omega), IntWalk.i64_in ((l.length : Int) - 1 - k - 1) (by omega), e1, e2]
  refine ⟨k + 1, (by show k + 1 ≤ l.length; omega), (by show l.length - (k + 1) < l.length - k; omega), St.le_of rfl ⟨⟨_, rfl, rfl, rfl, Nat.le_refl _, fun i hi => ?_, Nat.le_refl _⟩, trivial⟩ ⟨rfl, rfl, ?_, trivial⟩⟩
  · simp only
    cases b1 : Nat.beq i (l.length - 1 - k) with
    | true =>
      have := Nat.eq_of_beq_eq_true b1
      subst this
      simp only [cond_true, rvI]
      rw [if_pos (by omega), if_neg (by omega), show l.length - 1 - (l.length - 1 - k) = k by omega]
    | false =>
      have n1 : i ≠ l.length - 1 - k := fun e => by rw [e] at b1; simp at b1
      cases b2 : Nat.beq i k with
      | true =>
        have := Nat.eq_of_beq_eq_true b2
        subst this
        simp only [cond_true, cond_false, rvI]
        rw [if_pos (by omega), if_neg (by omega)]
      | false =>
        have n2 : i ≠ k := fun e => by rw [e] at b2; simp at b2
        simp only [cond_false, rvI]
        by_cases h3 : i < k ∨ l.length ≤ i + k
        · rw [if_pos h3, if_pos (by omega)]
        · rw [if_neg h3, if_neg (by omega)]
  · have : (l.length : Int) - 1 - k - 1 = (l.length : Int) - 1 - ((k + 1 : Nat) : Int) := by omega
    rw [this]; rfl
def MNF (m x : Int) : Int := if x < m then x else m
def MN (l : List Int) (k : Nat) : Int := (l.take k).foldl MNF (l.getD 0 0)
theorem MNF_step (l : List Int) (k : Nat) (h : k < l.length) : MN l (k + 1) = MNF (MN l k) (l.getD k 0) := by
  unfold MN
  rw [List.take_succ_eq_append_getElem h, List.foldl_append]
  simp [List.getD_eq_getElem?_getD, List.getElem?_eq_getElem h]
theorem min_any (A : Option Addr) (c : Nat) (l : List Int) (w : World) (hl : RdRow w A l.length 1 (elI l)) (hm : l.length ≤ 4611686018427387904) (h0 : 0 < l.length) :
    Calls Try.prog 22 #[.slice A l.length c] w fun e w' => e = .returned (I (MN l l.length)) ∧ Below w.heap.size w w' := by
  refine enterPlain tfine Try.func22 rfl 25 Try.ntmps22 [.c (.inp 1000 A l.length c)] [⟨1000, A, 1, l.length, elI l⟩] rfl rfl ⟨hl, trivial⟩ ⟨.inl ⟨rfl, rfl, rfl⟩, trivial⟩ ?_
  refine G.seqR tfine rfl trivial ?_
  refine G.seq (G.seqR tfine rfl trivial ?_)
  refine G.cond rfl (fun h => ?_) (fun h => ?_)
  · have h := of_decide_eq_true h
    omega
  refine G.skip ?_
  refine G.seqR tfine rfl ?_ ?_
  · simp [AllP]; omega
  refine G.seq (G.seqR tfine rfl trivial ?_)
  refine G.block (G.loop (fun k : Nat => St.of [(0, .v (.c (.inp 1000 A l.length c))), (3, .v (.c (.k (I (MN l k))))), (4, .v (.c (.k (I k))))] [(1000, .ro 1 l.length (elI l))])
    (fun k => 1 ≤ k ∧ k ≤ l.length) (fun k => l.length - k) 1 ⟨Nat.le_refl _, h0⟩ (St.le_of rfl ⟨⟨_, rfl, Blk.le_refl _⟩, trivial⟩ ⟨rfl, ?_, rfl, trivial⟩) ?_)
  · have : MN l 1 = l.getD 0 0 := by
      rw [MNF_step l 0 h0]
      simp [MN, MNF]
    rw [this]; rfl
  rintro k ⟨hk1, hk⟩
  refine G.seq (G.seqR tfine rfl trivial ?_)
  refine G.cond rfl (fun h => ?_) (fun h => ?_)
  rotate_left
  · have h := of_decide_eq_false h
    have : k = l.length := by omega
    subst this
    refine G.exit ?_
    refine G.seqR tfine rfl trivial ?_
    exact G.ret (endK.ret rfl rfl)
  have h := of_decide_eq_true h
  have hlt : k < l.length := by omega
  refine G.skip ?_
  refine G.seq (G.block ?_)
  refine G.reg tfine rfl ⟨by simpa using hlt, by omega, by omega, trivial⟩ ?_
  rw [Int.toNat_natCast]
  refine G.reg tfine rfl trivial ?_
  rw [IntWalk.i64_in ((k : Int) + 1) (by omega)]
  exact ⟨k + 1, ⟨by omega, hlt⟩, (by show l.length - (k + 1) < l.length - k; omega), St.le_of rfl ⟨⟨_, rfl, Blk.le_refl _⟩, trivial⟩ ⟨rfl, (by rw [MNF_step l k hlt]; rfl), rfl, trivial⟩⟩
def MXF (m x : Int) : Int := if x > m then x else m
def MX (l : List Int) (k : Nat) : Int := (l.take k).foldl MXF (l.getD 0 0)
theorem MXF_step (l : List Int) (k : Nat) (h : k < l.length) : MX l (k + 1) = MXF (MX l k) (l.getD k 0) := by
  unfold MX
  rw [List.take_succ_eq_append_getElem h, List.foldl_append]
  simp [List.getD_eq_getElem?_getD, List.getElem?_eq_getElem h]
theorem max_any (A : Option Addr) (c : Nat) (l : List Int) (w : World) (hl : RdRow w A l.length 1 (elI l)) (hm : l.length ≤ 4611686018427387904) (h0 : 0 < l.length) :
    Calls Try.prog 23 #[.slice A l.length c] w fun e w' => e = .returned (I (MX l l.length)) ∧ Below w.heap.size w w' := by
  refine enterPlain tfine Try.func23 rfl 25 Try.ntmps23 [.c (.inp 1000 A l.length c)] [⟨1000, A, 1, l.length, elI l⟩] rfl rfl ⟨hl, trivial⟩ ⟨.inl ⟨rfl, rfl, rfl⟩, trivial⟩ ?_
  refine G.seqR tfine rfl trivial ?_
  refine G.seq (G.seqR tfine rfl trivial ?_)
  refine G.cond rfl (fun h => ?_) (fun h => ?_)
  · have h := of_decide_eq_true h
    omega
  refine G.skip ?_
  refine G.seqR tfine rfl ?_ ?_
  · simp [AllP]; omega
  refine G.seq (G.seqR tfine rfl trivial ?_)
  refine G.block (G.loop (fun k : Nat => St.of [(0, .v (.c (.inp 1000 A l.length c))), (3, .v (.c (.k (I (MX l k))))), (4, .v (.c (.k (I k))))] [(1000, .ro 1 l.length (elI l))])
    (fun k => 1 ≤ k ∧ k ≤ l.length) (fun k => l.length - k) 1 ⟨Nat.le_refl _, h0⟩ (St.le_of rfl ⟨⟨_, rfl, Blk.le_refl _⟩, trivial⟩ ⟨rfl, ?_, rfl, trivial⟩) ?_)
  · have : MX l 1 = l.getD 0 0 := by
      rw [MXF_step l 0 h0]
      simp [MX, MXF]
    rw [this]; rfl
  rintro k ⟨hk1, hk⟩
  refine G.seq (G.seqR tfine rfl trivial ?_)
  refine G.cond rfl (fun h => ?_) (fun h => ?_)
  rotate_left
  · have h := of_decide_eq_false h
    have : k = l.length := by omega
    subst this
    refine G.exit ?_
    refine G.seqR tfine rfl trivial ?_
    exact G.ret (endK.ret rfl rfl)
  have h := of_decide_eq_true h
  have hlt : k < l.length := by omega
  refine G.skip ?_
  refine G.seq (G.block ?_)
  refine G.reg tfine rfl ⟨by simpa using hlt, by omega, by omega, trivial⟩ ?_
  rw [Int.toNat_natCast]
  refine G.reg tfine rfl trivial ?_
  rw [IntWalk.i64_in ((k : Int) + 1) (by omega)]
  exact ⟨k + 1, ⟨by omega, hlt⟩, (by show l.length - (k + 1) < l.length - k; omega), St.le_of rfl ⟨⟨_, rfl, Blk.le_refl _⟩, trivial⟩ ⟨rfl, (by rw [MXF_step l k hlt]; rfl), rfl, trivial⟩⟩
end Go.Proofs.Ytbgbndiokckboaa
