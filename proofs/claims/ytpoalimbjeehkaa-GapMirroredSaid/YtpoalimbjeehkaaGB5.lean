/- Chapter 38: rows of given records and numbers as lists. -/
import Derived.Test.YtpoalimbjeehkaaGB4
/- Chapter 38: Nearest, the code's side and the reference's. -/
set_option linter.unusedVariables false
set_option linter.unusedSimpArgs false
set_option maxRecDepth 8000
set_option maxHeartbeats 1000000
namespace Go.Proofs.Ytpoalimbjeehkaa
open Go.Sx Go.RowKit
def minW (a b : Int) : Int := if b < a then b else a
def nearF (l : List Rc) (g : Int) : Nat → Int
  | 0 => absR g
  | k + 1 => minW (nearF l g k) (difW l g k)
def nearR (l : List Rc) (g : Int) : Int × Int := if askR l g 0 != 0 then (0, askR l g 0) else (nearF l g (2 ^ l.length), 0)
theorem nearest_any (A : Option Addr) (c : Nat) (l : List Rc) (g : Int) (w : World) (hl : RdRow w A l.length 2 (elR l)) :
    Calls Try.prog 23 #[.slice A l.length c, I g] w fun e w' => e = .returned (.tuple #[I (nearR l g).1, I (nearR l g).2]) ∧ Below w.heap.size w w' := by
  refine enterPlain tfine Try.func23 rfl 36 Try.ntmps23 [.c (.inp 1000 A l.length c), .c (.k (I g))] [⟨1000, A, 2, l.length, elR l⟩] rfl rfl ⟨hl, trivial⟩ ⟨.inl ⟨rfl, rfl, rfl⟩, trivial, trivial⟩ ?_
  refine G.seqR tfine rfl trivial ?_
  refine G.seq ?_
  refine G.seqC tfine rfl trivial ?_
  refine GO.callPlain (v := I (askR l g 0)) rfl rfl rfl rfl (fun args w => Try.call34 args w) (fun ρ w hs hok => asked_any A c l g 0 w (hs.row (cap := c) rfl (hok _ List.mem_cons_self))) ?_
  refine GO.fin tfine rfl trivial ?_
  refine G.seqR tfine rfl trivial ?_
  refine G.cond (b := askR l g 0 != 0) rfl (fun h => ?_) (fun h => ?_)
  · refine G.seqR tfine rfl trivial ?_
    refine G.ret (endK.ret rfl ?_)
    rw [nearR, if_pos h]
  refine G.skip ?_
  have ha : askR l g 0 = 0 := by simpa using h
  have hn := ask_len ha
  have hp := two_pow13 hn
  refine G.seqC tfine rfl trivial ?_
  refine GO.callBig 16384 (sumsV l) rfl rfl rfl rfl (fun args w => Try.call35 args w) (fun ρ w hs hok => sums_any A c l w (hs.row (cap := c) rfl (hok _ List.mem_cons_self)) hn) ?_
  refine GO.more tfine rfl trivial ?_
  refine GO.callPlain (v := I (absR g)) rfl rfl rfl rfl (fun args w => Try.call37 args w) (fun ρ w hs hok => size_any g w) ?_
  refine GO.step tfine rfl trivial ?_
  refine GO.storeBig tfine (sumsV l) bigT57 rfl rfl rfl rfl rfl rfl (fun q hq => rfl) ?_
  refine GO.fin tfine rfl trivial ?_
  refine G.seq ?_
  refine G.seqR tfine rfl ⟨by omega, trivial⟩ ?_
  rw [shl1 _ hn]
  refine G.block (G.loop (fun k : Nat => St.of [(0, .v (.c (.inp 1000 A l.length c))), (1, .v (.c (.k (I g)))), (7, .v (.c (.ptr 7 0 1 0))), (8, .v (.c (.k (I (nearF l g k))))), (22, .v (.c (.k (I (2 ^ l.length : Nat))))), (23, .v (.c (.k (I k))))] [(7, .arr 57 1 16384 (fun q => [sumsV l q]) 0), (1000, .ro 2 l.length (elR l))])
    (fun k => k ≤ 2 ^ l.length) (fun k => 2 ^ l.length - k) 0 (Nat.zero_le _) (St.le_of rfl ⟨⟨_, rfl, Blk.le_refl _⟩, ⟨_, rfl, Blk.le_refl _⟩, trivial⟩ ⟨rfl, rfl, rfl, rfl, rfl, rfl, trivial⟩) ?_)
  rintro k hk
  refine G.seqR tfine rfl trivial ?_
  refine G.seq ?_
  refine G.cond (b := decide ((k : Int) < ((2 ^ l.length : Nat) : Int))) rfl (fun h2 => ?_) (fun h2 => ?_)
  rotate_left
  · have h2 := of_decide_eq_false h2
    have e : k = 2 ^ l.length := by generalize 2 ^ l.length = p at *; omega
    refine G.exit ?_
    refine G.seqR tfine rfl trivial ?_
    refine G.ret (endK.ret rfl ?_)
    rw [nearR, if_neg (by rw [h]; decide), ← e]
  have h2 := of_decide_eq_true h2
  have hlt : k < 2 ^ l.length := by generalize 2 ^ l.length = p at *; omega
  refine G.skip ?_
  refine G.seq ?_
  refine G.block ?_
  refine G.seqR tfine rfl trivial ?_
  refine G.regC tfine rfl ⟨by generalize 2 ^ l.length = p at *; omega, by generalize 2 ^ l.length = p at *; omega, by generalize 2 ^ l.length = p at *; omega, trivial⟩ ?_
  refine GO.callPlain (v := I (difW l g k)) rfl rfl rfl rfl (fun args w => Try.call37 args w) (fun ρ w hs hok => ?_) ?_
  · have := size_any (IntKind.i64.wrap (sumW l k l.length - g)) w
    rw [Int.toNat_natCast, if_pos hlt]
    exact this
  refine GO.fin tfine rfl trivial ?_
  refine G.reg tfine rfl trivial ?_
  rw [IntWalk.i64_in ((k : Int) + 1) (by generalize 2 ^ l.length = p at *; omega)]
  exact ⟨k + 1, hlt, (by show 2 ^ l.length - (k + 1) < 2 ^ l.length - k; omega), St.le_of rfl ⟨⟨_, rfl, Blk.le_refl _⟩, ⟨_, rfl, Blk.le_refl _⟩, trivial⟩ ⟨rfl, rfl, rfl, rfl, rfl, by simp [up, I], trivial⟩⟩
theorem refNearest_any (A : Option Addr) (c : Nat) (l : List Rc) (g : Int) (w : World) (hl : RdRow w A l.length 2 (elR l)) :
    Calls Try.prog 24 #[.slice A l.length c, I g] w fun e w' => e = .returned (.tuple #[I (nearR l g).1, I (nearR l g).2]) ∧ Below w.heap.size w w' := by
  refine enterPlain tfine Try.func24 rfl 33 Try.ntmps24 [.c (.inp 1000 A l.length c), .c (.k (I g))] [⟨1000, A, 2, l.length, elR l⟩] rfl rfl ⟨hl, trivial⟩ ⟨.inl ⟨rfl, rfl, rfl⟩, trivial, trivial⟩ ?_
  refine G.seqR tfine rfl trivial ?_
  refine G.seq ?_
  refine G.seqC tfine rfl trivial ?_
  refine GO.callPlain (v := I (askR l g 0)) rfl rfl rfl rfl (fun args w => Try.call40 args w) (fun ρ w hs hok => start_any A c l g 0 w (hs.row (cap := c) rfl (hok _ List.mem_cons_self))) ?_
  refine GO.fin tfine rfl trivial ?_
  refine G.seqR tfine rfl trivial ?_
  refine G.cond (b := askR l g 0 != 0) rfl (fun h => ?_) (fun h => ?_)
  · refine G.seqR tfine rfl trivial ?_
    refine G.ret (endK.ret rfl ?_)
    rw [nearR, if_pos h]
  refine G.skip ?_
  have ha : askR l g 0 = 0 := by simpa using h
  have hn := ask_len ha
  have hp := two_pow13 hn
  refine G.seqC tfine rfl trivial ?_
  refine GO.callPlain (v := I (absR g)) rfl rfl rfl rfl (fun args w => Try.call41 args w) (fun ρ w hs hok => refAbs_any g w) ?_
  refine GO.fin tfine rfl trivial ?_
  refine G.seq ?_
  refine G.seqR tfine rfl trivial ?_
  refine G.block (G.loop (fun k : Nat => St.of [(0, .v (.c (.inp 1000 A l.length c))), (1, .v (.c (.k (I g)))), (7, .v (.c (.k (I (nearF l g k))))), (8, .v (.c (.k (I k))))] [(1000, .ro 2 l.length (elR l))])
    (fun k => k ≤ 2 ^ l.length) (fun k => 2 ^ l.length - k) 0 (Nat.zero_le _) (St.le_of rfl ⟨⟨_, rfl, Blk.le_refl _⟩, trivial⟩ ⟨rfl, rfl, rfl, rfl, trivial⟩) ?_)
  rintro k hk
  refine G.seq ?_
  refine G.seqR tfine rfl ⟨by omega, trivial⟩ ?_
  rw [shl1 _ hn]
  refine G.cond (b := decide ((k : Int) < ((2 ^ l.length : Nat) : Int))) rfl (fun h2 => ?_) (fun h2 => ?_)
  rotate_left
  · have h2 := of_decide_eq_false h2
    have e : k = 2 ^ l.length := by generalize 2 ^ l.length = p at *; omega
    refine G.exit ?_
    refine G.seqR tfine rfl trivial ?_
    refine G.ret (endK.ret rfl ?_)
    rw [nearR, if_neg (by rw [h]; decide), ← e]
  have h2 := of_decide_eq_true h2
  have hlt : k < 2 ^ l.length := by generalize 2 ^ l.length = p at *; omega
  refine G.skip ?_
  refine G.seq ?_
  refine G.block ?_
  refine G.regC tfine rfl trivial ?_
  refine GO.callPlain (v := I (sumW l k l.length)) rfl rfl rfl rfl (fun args w => Try.call42 args w) (fun ρ w hs hok => refSum_any A c l k w (hs.row (cap := c) rfl (hok _ List.mem_cons_self)) (by generalize 2 ^ l.length = p at *; omega) hn) ?_
  refine GO.more tfine rfl trivial ?_
  refine GO.callPlain (v := I (difW l g k)) rfl rfl rfl rfl (fun args w => Try.call41 args w) (fun ρ w hs hok => refAbs_any (IntKind.i64.wrap (sumW l k l.length - g)) w) ?_
  refine GO.fin tfine rfl trivial ?_
  refine G.reg tfine rfl trivial ?_
  rw [IntWalk.i64_in ((k : Int) + 1) (by generalize 2 ^ l.length = p at *; omega)]
  exact ⟨k + 1, hlt, (by show 2 ^ l.length - (k + 1) < 2 ^ l.length - k; omega), St.le_of rfl ⟨⟨_, rfl, Blk.le_refl _⟩, trivial⟩ ⟨rfl, rfl, rfl, by simp [up, I], trivial⟩⟩
end Go.Proofs.Ytpoalimbjeehkaa
/- Chapter 38: which of two sets comes first, the code's side and the reference's. -/
set_option linter.unusedVariables false
set_option linter.unusedSimpArgs false
set_option maxRecDepth 8000
set_option maxHeartbeats 1000000
namespace Go.Proofs.Ytpoalimbjeehkaa
open Go.Sx Go.RowKit
def cmpI (a b : Int) : Int := if a < b then -1 else if a > b then 1 else 0
theorem isNaN_any (a : Int) (w : World) : Calls Try.prog 68 #[I a] w fun e w' => e = .returned (.bool (a != a)) ∧ Below w.heap.size w w' := by
  refine enterPlain tfine Try.func68 rfl 6 Try.ntmps68 [.c (.k (I a))] [] rfl rfl trivial ⟨trivial, trivial⟩ ?_
  refine G.seqR tfine rfl trivial ?_
  refine G.seqR tfine rfl trivial ?_
  exact G.ret (endK.ret rfl rfl)
theorem cmp_any (a b : Int) (w : World) : Calls Try.prog 59 #[I a, I b] w fun e w' => e = .returned (I (cmpI a b)) ∧ Below w.heap.size w w' := by
  refine enterPlain tfine Try.func59 rfl 20 Try.ntmps59 [.c (.k (I a)), .c (.k (I b))] [] rfl rfl trivial ⟨trivial, trivial, trivial⟩ ?_
  refine G.seqR tfine rfl trivial ?_
  refine G.seqC tfine rfl trivial ?_
  refine GO.callPlain (v := .bool (a != a)) rfl rfl rfl rfl (fun args w => Try.call68 args w) (fun ρ w hs hok => isNaN_any a w) ?_
  refine GO.fin tfine rfl trivial ?_
  refine G.seqC tfine rfl trivial ?_
  refine GO.callPlain (v := .bool (b != b)) rfl rfl rfl rfl (fun args w => Try.call68 args w) (fun ρ w hs hok => isNaN_any b w) ?_
  refine GO.fin tfine rfl trivial ?_
  refine G.seq ?_
  refine G.seqR tfine rfl trivial ?_
  refine G.cond (b := a != a) rfl (fun h => by simp at h) (fun h => ?_)
  refine G.skip ?_
  refine G.seq ?_
  refine G.seqR tfine rfl trivial ?_
  refine G.cond (b := b != b) rfl (fun h => by simp at h) (fun h => ?_)
  refine G.skip ?_
  refine G.seq ?_
  refine G.seqR tfine rfl trivial ?_
  refine G.cond (b := decide (a < b)) rfl (fun h => ?_) (fun h => ?_)
  · refine G.seqR tfine rfl trivial ?_
    refine G.ret (endK.ret rfl ?_)
    rw [cmpI, if_pos (of_decide_eq_true h)]
  refine G.skip ?_
  refine G.seq ?_
  refine G.seqR tfine rfl trivial ?_
  refine G.cond (b := decide (a > b)) rfl (fun h2 => ?_) (fun h2 => ?_)
  · refine G.seqR tfine rfl trivial ?_
    refine G.ret (endK.ret rfl ?_)
    rw [cmpI, if_neg (of_decide_eq_false h), if_pos (of_decide_eq_true h2)]
  refine G.skip ?_
  refine G.seqR tfine rfl trivial ?_
  refine G.ret (endK.ret rfl ?_)
  rw [cmpI, if_neg (of_decide_eq_false h), if_neg (of_decide_eq_false h2)]
/-- Comparing two lists from place i on. -/
def cmpL (a b : List Int) : Nat → Nat → Int
  | i, 0 => if (a.length : Int) < b.length then -1 else 0
  | i, c + 1 => if (i : Int) ≥ b.length then 1 else if cmpI (a.getD i 0) (b.getD i 0) != 0 then cmpI (a.getD i 0) (b.getD i 0) else cmpL a b (i + 1) c
theorem cmpL_step (a b : List Int) {k n : Nat} (h : k < n) : cmpL a b k (n - k) = if (k : Int) ≥ b.length then 1 else if cmpI (a.getD k 0) (b.getD k 0) != 0 then cmpI (a.getD k 0) (b.getD k 0) else cmpL a b (k + 1) (n - (k + 1)) := by
  have : n - k = (n - (k + 1)) + 1 := by omega
  rw [this, cmpL]
theorem compare_any (A B : Option Addr) (c d : Nat) (a b : List Int) (w : World) (ha : RdRow w A a.length 1 (elI a)) (hb : RdRow w B b.length 1 (elI b)) (h1 : a.length ≤ 64) :
    Calls Try.prog 39 #[.slice A a.length c, .slice B b.length d] w fun e w' => e = .returned (I (cmpL a b 0 a.length)) ∧ Below w.heap.size w w' := by
  refine enterPlain tfine Try.func39 rfl 36 Try.ntmps39 [.c (.inp 1000 A a.length c), .c (.inp 1001 B b.length d)] [⟨1000, A, 1, a.length, elI a⟩, ⟨1001, B, 1, b.length, elI b⟩] rfl rfl ⟨ha, hb, trivial⟩ ⟨.inl ⟨rfl, rfl, rfl⟩, .inr ⟨by simp, .inl ⟨rfl, rfl, rfl⟩⟩, trivial⟩ ?_
  refine G.seqR tfine rfl trivial ?_
  refine G.seq ?_
  refine G.seqR tfine rfl trivial ?_
  refine G.block (G.loop (fun k : Nat => St.of [(0, .v (.c (.inp 1000 A a.length c))), (1, .v (.c (.inp 1001 B b.length d))), (9, .v (.c (.inp 1000 A a.length c))), (10, .v (.c (.k (I a.length)))), (11, .v (.c (.k (I k))))] [(1000, .ro 1 a.length (elI a)), (1001, .ro 1 b.length (elI b))])
    (fun k => k ≤ a.length ∧ cmpL a b 0 a.length = cmpL a b k (a.length - k)) (fun k => a.length - k) 0 ⟨by omega, rfl⟩ (St.le_of rfl ⟨⟨_, rfl, Blk.le_refl _⟩, ⟨_, rfl, Blk.le_refl _⟩, trivial⟩ ⟨rfl, rfl, rfl, rfl, rfl, trivial⟩) ?_)
  rintro k ⟨hk, hfi⟩
  refine G.seqR tfine rfl trivial ?_
  refine G.seq ?_
  refine G.cond (b := decide ((k : Int) < (a.length : Int))) rfl (fun h2 => ?_) (fun h2 => ?_)
  rotate_left
  · have h2 := of_decide_eq_false h2
    have : k = a.length := by omega
    subst this
    rw [Nat.sub_self] at hfi
    refine G.exit ?_
    refine G.seq ?_
    refine G.seqR tfine rfl trivial ?_
    refine G.cond (b := decide ((a.length : Int) < (b.length : Int))) rfl (fun h3 => ?_) (fun h3 => ?_)
    · refine G.seqR tfine rfl trivial ?_
      refine G.ret (endK.ret rfl ?_)
      rw [hfi, cmpL, if_pos (of_decide_eq_true h3)]
    refine G.skip ?_
    refine G.seqR tfine rfl trivial ?_
    refine G.ret (endK.ret rfl ?_)
    rw [hfi, cmpL, if_neg (of_decide_eq_false h3)]
  have h2 := of_decide_eq_true h2
  have hlt : k < a.length := by omega
  rw [cmpL_step a b hlt] at hfi
  refine G.skip ?_
  refine G.seq ?_
  refine G.block ?_
  refine G.seqR tfine rfl ⟨by simpa using hlt, by omega, by omega, trivial⟩ ?_
  rw [Int.toNat_natCast]
  refine G.seq ?_
  refine G.seqR tfine rfl trivial ?_
  refine G.cond (b := decide ((k : Int) ≥ (b.length : Int))) rfl (fun h3 => ?_) (fun h3 => ?_)
  · refine G.seqR tfine rfl trivial ?_
    refine G.ret (endK.ret rfl ?_)
    rw [hfi, if_pos (of_decide_eq_true h3)]
  rw [if_neg (of_decide_eq_false h3)] at hfi
  have h3 := of_decide_eq_false h3
  have hltb : k < b.length := by omega
  refine G.skip ?_
  refine G.seqR tfine rfl ⟨by simpa using hltb, by omega, by omega, trivial⟩ ?_
  rw [Int.toNat_natCast]
  refine G.seqC tfine rfl trivial ?_
  refine GO.callPlain (v := I (cmpI (a.getD k 0) (b.getD k 0))) rfl rfl rfl rfl (fun args w => Try.call59 args w) (fun ρ w hs hok => cmp_any (a.getD k 0) (b.getD k 0) w) ?_
  refine GO.fin tfine rfl trivial ?_
  refine G.seqR tfine rfl trivial ?_
  refine G.cond (b := cmpI (a.getD k 0) (b.getD k 0) != 0) rfl (fun h4 => ?_) (fun h4 => ?_)
  · refine G.seqR tfine rfl trivial ?_
    refine G.ret (endK.ret rfl ?_)
    rw [hfi, if_pos h4]
  rw [if_neg (fne h4)] at hfi
  refine G.skip ?_
  refine G.reg tfine rfl trivial ?_
  rw [IntWalk.i64_in ((k : Int) + 1) (by omega)]
  exact ⟨k + 1, ⟨by omega, hfi⟩, (by show a.length - (k + 1) < a.length - k; omega), St.le_of rfl ⟨⟨_, rfl, Blk.le_refl _⟩, ⟨_, rfl, Blk.le_refl _⟩, trivial⟩ ⟨rfl, rfl, rfl, rfl, by simp [up, I], trivial⟩⟩
def befL (a b : List Int) : Nat → Nat → Bool
  | i, 0 => false
  | i, c + 1 => if a.getD i 0 != b.getD i 0 then decide (a.getD i 0 < b.getD i 0) else befL a b (i + 1) c
theorem befL_step (a b : List Int) {k n : Nat} (h : k < n) : befL a b k (n - k) = if a.getD k 0 != b.getD k 0 then decide (a.getD k 0 < b.getD k 0) else befL a b (k + 1) (n - (k + 1)) := by
  have : n - k = (n - (k + 1)) + 1 := by omega
  rw [this, befL]
def befI (a b : List Int) : Bool := if (a.length : Int) != b.length then decide ((a.length : Int) < b.length) else befL a b 0 a.length
theorem before_any (A B : Option Addr) (c d : Nat) (a b : List Int) (w : World) (ha : RdRow w A a.length 1 (elI a)) (hb : RdRow w B b.length 1 (elI b)) (h1 : a.length ≤ 64) :
    Calls Try.prog 44 #[.slice A a.length c, .slice B b.length d] w fun e w' => e = .returned (.bool (befI a b)) ∧ Below w.heap.size w w' := by
  refine enterPlain tfine Try.func44 rfl 40 Try.ntmps44 [.c (.inp 1000 A a.length c), .c (.inp 1001 B b.length d)] [⟨1000, A, 1, a.length, elI a⟩, ⟨1001, B, 1, b.length, elI b⟩] rfl rfl ⟨ha, hb, trivial⟩ ⟨.inl ⟨rfl, rfl, rfl⟩, .inr ⟨by simp, .inl ⟨rfl, rfl, rfl⟩⟩, trivial⟩ ?_
  refine G.seqR tfine rfl trivial ?_
  refine G.seq ?_
  refine G.seqR tfine rfl trivial ?_
  refine G.cond (b := (a.length : Int) != b.length) rfl (fun h => ?_) (fun h => ?_)
  · refine G.seqR tfine rfl trivial ?_
    refine G.ret (endK.ret rfl ?_)
    rw [befI, if_pos h]
  have hlen : a.length = b.length := by have := h; simp only [bne_eq_false_iff_eq] at this; omega
  have hbi : befI a b = befL a b 0 a.length := by rw [befI, if_neg (fne h)]
  rw [hbi]
  refine G.skip ?_
  refine G.seq ?_
  refine G.seqR tfine rfl trivial ?_
  refine G.block (G.loop (fun k : Nat => St.of [(0, .v (.c (.inp 1000 A a.length c))), (1, .v (.c (.inp 1001 B b.length d))), (5, .v (.c (.k (I k))))] [(1000, .ro 1 a.length (elI a)), (1001, .ro 1 b.length (elI b))])
    (fun k => k ≤ a.length ∧ befL a b 0 a.length = befL a b k (a.length - k)) (fun k => a.length - k) 0 ⟨by omega, rfl⟩ (St.le_of rfl ⟨⟨_, rfl, Blk.le_refl _⟩, ⟨_, rfl, Blk.le_refl _⟩, trivial⟩ ⟨rfl, rfl, rfl, trivial⟩) ?_)
  rintro k ⟨hk, hfi⟩
  refine G.seq ?_
  refine G.seqR tfine rfl trivial ?_
  refine G.cond (b := decide ((k : Int) < (a.length : Int))) rfl (fun h2 => ?_) (fun h2 => ?_)
  rotate_left
  · have h2 := of_decide_eq_false h2
    have : k = a.length := by omega
    subst this
    rw [Nat.sub_self] at hfi
    refine G.exit ?_
    refine G.seqR tfine rfl trivial ?_
    refine G.ret (endK.ret rfl ?_)
    rw [hfi]
    rfl
  have h2 := of_decide_eq_true h2
  have hlt : k < a.length := by omega
  have hltb : k < b.length := by omega
  rw [befL_step a b hlt] at hfi
  refine G.skip ?_
  refine G.seq ?_
  refine G.block ?_
  refine G.seqD tfine hmix [0, 0, 3, 7, 0, 0, 48, 112, 255] [] rfl rfl rfl rfl ⟨by simpa using hltb, by omega, by omega, by simpa using hlt, by omega, by omega, trivial⟩ ?_
  simp only [Int.toNat_natCast]
  refine G.cond (b := a.getD k 0 != b.getD k 0) rfl (fun h4 => ?_) (fun h4 => ?_)
  · refine G.seqD tfine hmix [0, 0, 3, 7, 0, 0, 48, 112, 255, 511] [] rfl rfl rfl rfl ⟨by simpa using hltb, by omega, by omega, by simpa using hlt, by omega, by omega, trivial⟩ ?_
    simp only [Int.toNat_natCast]
    refine G.ret (endK.ret rfl ?_)
    rw [hfi, if_pos h4]
  rw [if_neg (fne h4)] at hfi
  refine G.skip ?_
  refine G.reg tfine rfl trivial ?_
  rw [IntWalk.i64_in ((k : Int) + 1) (by omega)]
  exact ⟨k + 1, ⟨by omega, hfi⟩, (by show a.length - (k + 1) < a.length - k; omega), St.le_of rfl ⟨⟨_, rfl, Blk.le_refl _⟩, ⟨_, rfl, Blk.le_refl _⟩, trivial⟩ ⟨rfl, rfl, by simp [up, I], trivial⟩⟩
end Go.Proofs.Ytpoalimbjeehkaa
/- Chapter 38: Explain, the code's side and the reference's. -/
set_option linter.unusedVariables false
set_option linter.unusedSimpArgs false
set_option maxRecDepth 8000
set_option maxHeartbeats 1000000
namespace Go.Proofs.Ytpoalimbjeehkaa
open Go.Sx Go.RowKit
theorem cmpI_lt (a b : Int) : (decide (cmpI a b < 0)) = decide (a < b) := by
  unfold cmpI
  split
  · rename_i h; simp [h]
  · rename_i h
    split <;> simp [h]
theorem cmp_bef (a b : List Int) (h : a.length = b.length) (c : Nat) : ∀ i, i + c = a.length → decide (cmpL a b i c < 0) = befL a b i c := by
  induction c with
  | zero =>
    intro i hi
    rw [cmpL, befL, if_neg (by omega)]
    rfl
  | succ c ih =>
    intro i hi
    rw [cmpL, befL, if_neg (by omega)]
    generalize a.getD i 0 = x
    generalize b.getD i 0 = y
    by_cases hxy : x = y
    · subst hxy
      rw [show cmpI x x = 0 by unfold cmpI; rw [if_neg (by omega), if_neg (by omega)]]
      simp only [bne_self_eq_false, Bool.false_eq_true, if_false]
      exact ih (i + 1) (by omega)
    · rw [if_pos (by
        unfold cmpI
        split
        · decide
        · rw [if_pos (by omega)]; decide), if_pos (by simpa using hxy)]
      exact cmpI_lt x y
def exS (l : List Rc) (g t : Int) : Nat → List Int × Bool
  | 0 => ([], false)
  | k + 1 => if (hitW l g t k && (!(exS l g t k).2 || befI (idsW l k l.length) (exS l g t k).1)) = true then (idsW l k l.length, true) else exS l g t k
def mstV (l : List Rc) (s : List Int × Bool) : Nat := cond s.2 s.1.length (l.length + 1)
theorem exS_len (l : List Rc) (g t : Int) (k : Nat) : (exS l g t k).1.length ≤ l.length := by
  induction k with
  | zero => exact Nat.zero_le _
  | succ k ih =>
    rw [exS]
    split
    · exact idsW_le l k l.length
    · exact ih
theorem exS_skip (l : List Rc) (g t : Int) (k : Nat) (h : (decide (((idsW l k l.length).length : Int) > (mstV l (exS l g t k) : Int)) || decide (difW l g k > t)) = true) : exS l g t (k + 1) = exS l g t k := by
  rw [exS]
  refine if_neg fun hc => ?_
  simp only [Bool.and_eq_true, Bool.or_eq_true, decide_eq_true_eq, hitW, Bool.not_eq_true'] at hc h
  obtain ⟨h1, h2⟩ := hc
  have hi := idsW_le l k l.length
  rcases h with h | h
  · unfold mstV at h
    rcases h2 with h2 | h2
    · rw [h2] at h; simp only [cond_false] at h; omega
    · cases hf : (exS l g t k).2 with
      | false => rw [hf] at h; simp only [cond_false] at h; omega
      | true =>
        rw [hf] at h; simp only [cond_true] at h
        unfold befI at h2
        rw [if_pos (by simp only [bne_iff_ne]; omega)] at h2
        simp only [decide_eq_true_eq] at h2
        omega
  · omega
theorem exS_dec (l : List Rc) (g t : Int) (k : Nat) (h : (decide (((idsW l k l.length).length : Int) > (mstV l (exS l g t k) : Int)) || decide (difW l g k > t)) = false) :
    (decide (((idsW l k l.length).length : Int) < (mstV l (exS l g t k) : Int)) || decide (cmpL (idsW l k l.length) (exS l g t k).1 0 (idsW l k l.length).length < 0)) = (hitW l g t k && (!(exS l g t k).2 || befI (idsW l k l.length) (exS l g t k).1)) := by
  simp only [Bool.or_eq_false_iff, decide_eq_false_iff_not] at h
  obtain ⟨h1, h2⟩ := h
  have hi := idsW_le l k l.length
  rw [show hitW l g t k = true by unfold hitW; simp only [decide_eq_true_eq]; omega, Bool.true_and]
  unfold mstV at *
  cases hf : (exS l g t k).2 with
  | false =>
    simp only [cond_false, Bool.not_false, Bool.true_or, Bool.or_eq_true, decide_eq_true_eq]
    left; omega
  | true =>
    rw [hf] at h1
    simp only [cond_true, Bool.not_true, Bool.false_or] at h1 ⊢
    unfold befI
    by_cases hl : (idsW l k l.length).length = (exS l g t k).1.length
    · rw [if_neg (by simp only [bne_iff_ne]; omega), ← cmp_bef _ _ hl _ 0 (by omega), show decide (((idsW l k l.length).length : Int) < ((exS l g t k).1.length : Int)) = false by simp only [decide_eq_false_iff_not]; omega, Bool.false_or]
    · have : ((idsW l k l.length).length : Int) < ((exS l g t k).1.length : Int) := by omega
      rw [if_pos (by simp only [bne_iff_ne]; omega)]
      simp [this]
def exA (l : List Rc) (g t : Int) : List Int × Int := if (askR l g t != 0) = true then ([], askR l g t) else if (exS l g t (2 ^ l.length)).2 = true then ((exS l g t (2 ^ l.length)).1, 0) else ([], 20)
theorem u64_nat (k : Nat) (h : k < 16384) : IntKind.u64.wrap (k : Int) = (k : Int) := IntWalk.u64_in _ (by omega)
theorem explain_any (A : Option Addr) (c : Nat) (l : List Rc) (g tol : Int) (w : World) (hl : RdRow w A l.length 2 (elR l)) (h8 : l.length ≤ 8 ∨ 14 < l.length) :
    Calls Try.prog 15 #[.slice A l.length c, I g, I tol] w fun e w' => Ans w w' [.c (.r (exA l g tol).1.length 1 (elI (exA l g tol).1)), .c (.p (I (exA l g tol).2))] e ∧ Below w.heap.size w w' := by
  refine enterAns tfine _ Try.func15 rfl 69 Try.ntmps15 [.c (.inp 1000 A l.length c), .c (.k (I g)), .c (.k (I tol))] [⟨1000, A, 2, l.length, elR l⟩] rfl rfl ⟨hl, trivial⟩ ⟨.inl ⟨rfl, rfl, rfl⟩, trivial, trivial, trivial⟩ ?_
  refine G.seqR tfine rfl trivial ?_
  refine G.seq ?_
  refine G.seqC tfine rfl trivial ?_
  refine GO.callPlain (v := I (askR l g tol)) rfl rfl rfl rfl (fun args w => Try.call34 args w) (fun ρ w hs hok => asked_any A c l g tol w (hs.row (cap := c) rfl (hok _ List.mem_cons_self))) ?_
  refine GO.fin tfine rfl trivial ?_
  refine G.seqR tfine rfl trivial ?_
  refine G.cond (b := askR l g tol != 0) rfl (fun h => ?_) (fun h => ?_)
  · refine G.seqR tfine rfl trivial ?_
    rw [exA, if_pos h]
    exact G.ret (endAns.ret ⟨⟨_, rfl, rfl, rfl, fun a h => by cases h⟩, ⟨_, rfl, rfl⟩, trivial⟩)
  refine G.skip ?_
  have ha : askR l g tol = 0 := by simpa using h
  have hn := ask_len ha
  have h8 : l.length ≤ 8 := by omega
  have hp := two_pow13 hn
  have heA : exA l g tol = if (exS l g tol (2 ^ l.length)).2 = true then ((exS l g tol (2 ^ l.length)).1, 0) else ([], 20) := by rw [exA, if_neg (fne h)]
  rw [heA]
  refine G.seqC tfine rfl trivial ?_
  refine GO.callBig 16384 (sumsV l) rfl rfl rfl rfl (fun args w => Try.call35 args w) (fun ρ w hs hok => sums_any A c l w (hs.row (cap := c) rfl (hok _ List.mem_cons_self)) hn) ?_
  refine GO.step tfine rfl trivial ?_
  refine GO.storeBig tfine (sumsV l) bigT57 rfl rfl rfl rfl rfl rfl (fun q hq => rfl) ?_
  refine GO.fin tfine rfl trivial ?_
  refine G.seqR tfine rfl trivial ?_
  rw [IntWalk.i64_in ((l.length : Int) + 1) (by omega)]
  refine G.seq ?_
  refine G.seqR tfine rfl ⟨by omega, trivial⟩ ?_
  rw [shl1 _ hn]
  refine G.block ?_
  refine G.nilRow 40 10 1 w.heap.size (elI []) rfl rfl rfl rfl ?_
  refine G.loop (fun k : Nat => St.of [(0, .v (.c (.inp 1000 A l.length c))), (1, .v (.c (.k (I g)))), (2, .v (.c (.k (I tol)))), (9, .v (.c (.ptr 9 0 1 0))), (10, .v (.c (.row 40 (exS l g tol k).1.length w.heap.size))), (11, .v (.c (.k (I (mstV l (exS l g tol k)))))), (29, .v (.c (.k (I (2 ^ l.length : Nat))))), (30, .v (.c (.k (I k))))] [(9, .arr 57 1 16384 (fun q => [sumsV l q]) 0), (40, .ro 1 (exS l g tol k).1.length (elI (exS l g tol k).1)), (90, .ro 0 0 fun _ => []), (1000, .ro 2 l.length (elR l))])
    (fun k => k ≤ 2 ^ l.length) (fun k => 2 ^ l.length - k) 0 (Nat.zero_le _) (St.le_of rfl ⟨⟨_, rfl, Blk.le_refl _⟩, ⟨_, rfl, Blk.le_refl _⟩, ⟨_, rfl, Blk.le_refl _⟩, ⟨_, rfl, Blk.le_refl _⟩, trivial⟩ ⟨rfl, rfl, rfl, rfl, rfl, rfl, rfl, rfl, trivial⟩) ?_
  rintro k hk
  have hsl := exS_len l g tol k
  refine G.seqR tfine rfl trivial ?_
  refine G.seq ?_
  refine G.cond (b := decide ((k : Int) < ((2 ^ l.length : Nat) : Int))) rfl (fun h2 => ?_) (fun h2 => ?_)
  rotate_left
  · have h2 := of_decide_eq_false h2
    have e : k = 2 ^ l.length := by generalize 2 ^ l.length = p at *; omega
    refine G.exit ?_
    refine G.seq ?_
    refine G.seqR tfine rfl trivial ?_
    rw [← e]
    unfold mstV
    refine G.cond (b := decide (((cond (exS l g tol k).2 (exS l g tol k).1.length (l.length + 1) : Nat) : Int) > (l.length : Int))) rfl (fun h3 => ?_) (fun h3 => ?_)
    · refine G.seqR tfine rfl trivial ?_
      rw [if_neg (fun hc => by
        rw [hc] at h3
        have := of_decide_eq_true h3
        simp only [cond_true] at this
        omega)]
      exact G.ret (endAns.ret ⟨⟨_, rfl, rfl, rfl, fun a h => by cases h⟩, ⟨_, rfl, rfl⟩, trivial⟩)
    refine G.skip ?_
    refine G.seqR tfine rfl trivial ?_
    rw [if_pos (by
      cases hc : (exS l g tol k).2 with
      | true => rfl
      | false =>
        rw [hc] at h3
        have := of_decide_eq_false h3
        simp only [cond_false] at this
        omega)]
    exact G.ret (endAns.ret ⟨⟨_, rfl, rfl, Nat.le_refl _, _, _, rfl, Nat.le_refl _, fun i hi => rfl⟩, ⟨_, rfl, rfl⟩, trivial⟩)
  have h2 := of_decide_eq_true h2
  have hlt : k < 2 ^ l.length := by generalize 2 ^ l.length = p at *; omega
  have hk14 : k < 16384 := by generalize 2 ^ l.length = p at *; omega
  have hoc := ocF_ids l k h8 hlt
  have hil := idsW_le l k l.length
  refine G.skip ?_
  refine G.seq ?_
  refine G.block ?_
  refine G.seqR tfine rfl trivial ?_
  refine G.seqC tfine rfl trivial ?_
  rw [u64_nat k hk14]
  refine GO.callPlain (v := I (ocF k)) rfl rfl rfl rfl (fun args w => Try.call36 args w) (fun ρ w hs hok => onesCount_any k w) ?_
  refine GO.fin tfine rfl trivial ?_
  rw [hoc]
  refine G.seq ?_
  refine G.seqC tfine rfl ?_ ?_
  · simp [AllP, condB]
    generalize 2 ^ l.length = p at *
    and_intros <;> intros <;> omega
  refine GO.callGuard (I (difW l g k)) rfl rfl rfl (by first | exact trivial | exact ⟨id, trivial⟩ | exact ⟨id, id, trivial⟩ | exact ⟨id, id, id, trivial⟩ | exact ⟨id, id, id, id, trivial⟩) rfl rfl (fun args w => Try.call37 args w) rfl (fun _ m' hle ρ w hs hok => ?_) ?_
  · have := size_any (IntKind.i64.wrap (sumW l k l.length - g)) w
    rw [Int.toNat_natCast, if_pos hlt]
    exact this
  refine GO.fin tfine rfl ?_ ?_
  · simp [AllP, condB]
  have em : 2 ^ l.length - (k + 1) < 2 ^ l.length - k := by generalize 2 ^ l.length = p at *; omega
  refine G.cond (b := decide (((idsW l k l.length).length : Int) > (mstV l (exS l g tol k) : Int)) || decide (difW l g k > tol)) rfl (fun h3 => ?_) (fun h3 => ?_)
  · refine G.exit ?_
    refine G.reg tfine rfl trivial ?_
    rw [IntWalk.i64_in ((k : Int) + 1) (by generalize 2 ^ l.length = p at *; omega)]
    refine ⟨k + 1, hlt, em, ?_⟩
    simp only []
    rw [exS_skip l g tol k h3]
    exact St.le_of rfl ⟨⟨_, rfl, Blk.le_refl _⟩, ⟨_, rfl, Blk.le_refl _⟩, ⟨_, rfl, Blk.le_refl _⟩, ⟨_, rfl, Blk.le_refl _⟩, trivial⟩ ⟨rfl, rfl, rfl, rfl, rfl, rfl, rfl, by simp [up, I], trivial⟩
  have hd := exS_dec l g tol k h3
  refine G.skip ?_
  refine G.seqC tfine rfl trivial ?_
  refine GO.callAns [.c (.r (idsW l k l.length).length 1 (elI (idsW l k l.length)))] [41] rfl rfl rfl rfl ⟨rfl, rfl, rfl, trivial⟩ (fun args w => Try.call38 args w) (fun ρ w hs hok => ids_any A c l k w (hs.row (cap := c) rfl (hok _ List.mem_cons_self)) hk14 hn) ?_
  refine GO.fin tfine rfl trivial ?_
  refine G.seqC tfine rfl ?_ ?_
  · simp [AllP, condB]
  refine GO.callGuard (I (cmpL (idsW l k l.length) (exS l g tol k).1 0 (idsW l k l.length).length)) rfl rfl rfl (by first | exact trivial | exact ⟨id, trivial⟩ | exact ⟨id, id, trivial⟩ | exact ⟨id, id, id, trivial⟩ | exact ⟨id, id, id, id, trivial⟩) rfl rfl (fun args w => Try.call39 args w) rfl (fun _ m' hle ρ w hs hok => ?_) ?_
  · exact compare_any (rowAd ρ 41) (rowAd ρ 40) (ρ 91).1 (ρ 90).1 (idsW l k l.length) (exS l g tol k).1 w (hs.rowR (hle.at rfl) (hok _ List.mem_cons_self) (Nat.le_refl _)) (hs.rowR (hle.at rfl) (hok _ (List.mem_cons_of_mem _ List.mem_cons_self)) (Nat.le_refl _)) (by omega)
  refine GO.fin tfine rfl ?_ ?_
  · simp [AllP, condB]
  refine G.cond (b := (decide (((idsW l k l.length).length : Int) < (mstV l (exS l g tol k) : Int)) || decide (cmpL (idsW l k l.length) (exS l g tol k).1 0 (idsW l k l.length).length < 0))) rfl (fun h4 => ?_) (fun h4 => ?_)
  · rw [hd] at h4
    have e : exS l g tol (k + 1) = (idsW l k l.length, true) := by rw [exS, if_pos h4]
    refine G.weaken (St.le_of (tl := [(0, .v (.c (.inp 1000 A l.length c))), (1, .v (.c (.k (I g)))), (2, .v (.c (.k (I tol)))), (9, .v (.c (.ptr 9 0 1 0))), (13, .v (.c (.k (I (idsW l k l.length).length)))), (14, .v (.c (.row 41 (idsW l k l.length).length w.heap.size))), (29, .v (.c (.k (I (2 ^ l.length : Nat))))), (30, .v (.c (.k (I k))))]) (ml := [(9, .arr 57 1 16384 (fun q => [sumsV l q]) 0), (41, .ro 1 (idsW l k l.length).length (elI (idsW l k l.length))), (91, .ro 0 0 fun _ => []), (1000, .ro 2 l.length (elR l))]) rfl ⟨⟨_, rfl, Blk.le_refl _⟩, ⟨_, rfl, Blk.le_refl _⟩, ⟨_, rfl, Blk.le_refl _⟩, ⟨_, rfl, Blk.le_refl _⟩, trivial⟩ ⟨rfl, rfl, rfl, rfl, rfl, rfl, rfl, rfl, trivial⟩) ?_
    refine G.renRow 41 40 14 rfl rfl rfl rfl rfl ?_
    refine G.reg tfine rfl trivial ?_
    refine G.reg tfine rfl trivial ?_
    rw [IntWalk.i64_in ((k : Int) + 1) (by generalize 2 ^ l.length = p at *; omega)]
    refine ⟨k + 1, hlt, em, ?_⟩
    simp only []
    rw [e]
    exact St.le_of rfl ⟨⟨_, rfl, Blk.le_refl _⟩, ⟨_, rfl, Blk.le_refl _⟩, ⟨_, rfl, Blk.le_refl _⟩, ⟨_, rfl, Blk.le_refl _⟩, trivial⟩ ⟨rfl, rfl, rfl, rfl, rfl, rfl, rfl, by simp [up, I], trivial⟩
  rw [hd] at h4
  have e : exS l g tol (k + 1) = exS l g tol k := by rw [exS, if_neg (fne h4)]
  refine G.skip ?_
  refine G.reg tfine rfl trivial ?_
  rw [IntWalk.i64_in ((k : Int) + 1) (by generalize 2 ^ l.length = p at *; omega)]
  refine ⟨k + 1, hlt, em, ?_⟩
  simp only []
  rw [e]
  exact St.le_of rfl ⟨⟨_, rfl, Blk.le_refl _⟩, ⟨_, rfl, Blk.le_refl _⟩, ⟨_, rfl, Blk.le_refl _⟩, ⟨_, rfl, Blk.le_refl _⟩, trivial⟩ ⟨rfl, rfl, rfl, rfl, rfl, rfl, rfl, by simp [up, I], trivial⟩
end Go.Proofs.Ytpoalimbjeehkaa
/- Chapter 38: Explain, the reference's side. -/
set_option linter.unusedVariables false
set_option linter.unusedSimpArgs false
set_option maxRecDepth 8000
set_option maxHeartbeats 1000000
namespace Go.Proofs.Ytpoalimbjeehkaa
open Go.Sx Go.RowKit
theorem refExplain_any (A : Option Addr) (c : Nat) (l : List Rc) (g tol : Int) (w : World) (hl : RdRow w A l.length 2 (elR l)) :
    Calls Try.prog 16 #[.slice A l.length c, I g, I tol] w fun e w' => Ans w w' [.c (.r (exA l g tol).1.length 1 (elI (exA l g tol).1)), .c (.p (I (exA l g tol).2))] e ∧ Below w.heap.size w w' := by
  refine enterAns tfine _ Try.func16 rfl 50 Try.ntmps16 [.c (.inp 1000 A l.length c), .c (.k (I g)), .c (.k (I tol))] [⟨1000, A, 2, l.length, elR l⟩] rfl rfl ⟨hl, trivial⟩ ⟨.inl ⟨rfl, rfl, rfl⟩, trivial, trivial, trivial⟩ ?_
  refine G.seqR tfine rfl trivial ?_
  refine G.seq ?_
  refine G.seqC tfine rfl trivial ?_
  refine GO.callPlain (v := I (askR l g tol)) rfl rfl rfl rfl (fun args w => Try.call40 args w) (fun ρ w hs hok => start_any A c l g tol w (hs.row (cap := c) rfl (hok _ List.mem_cons_self))) ?_
  refine GO.fin tfine rfl trivial ?_
  refine G.seqR tfine rfl trivial ?_
  refine G.cond (b := askR l g tol != 0) rfl (fun h => ?_) (fun h => ?_)
  · refine G.seqR tfine rfl trivial ?_
    rw [exA, if_pos h]
    exact G.ret (endAns.ret ⟨⟨_, rfl, rfl, rfl, fun a h => by cases h⟩, ⟨_, rfl, rfl⟩, trivial⟩)
  refine G.skip ?_
  have ha : askR l g tol = 0 := by simpa using h
  have hn := ask_len ha
  have hp := two_pow13 hn
  have heA : exA l g tol = if (exS l g tol (2 ^ l.length)).2 = true then ((exS l g tol (2 ^ l.length)).1, 0) else ([], 20) := by rw [exA, if_neg (fne h)]
  rw [heA]
  refine G.seqC tfine rfl trivial ?_
  refine GO.emptySliceS tfine rfl rfl rfl rfl rfl rfl rfl fun A0 hA0 => ?_
  refine GO.fin tfine rfl trivial ?_
  refine G.seq ?_
  refine G.seqR tfine rfl trivial ?_
  refine G.block ?_
  refine G.nilRowA 40 9 1 w.heap.size (elI []) hA0 rfl rfl rfl rfl ?_
  refine G.loop (fun k : Nat => St.of [(0, .v (.c (.inp 1000 A l.length c))), (1, .v (.c (.k (I g)))), (2, .v (.c (.k (I tol)))), (9, .v (.c (.row 40 (exS l g tol k).1.length w.heap.size))), (10, .v (.c (.k (.bool (exS l g tol k).2)))), (11, .v (.c (.k (I k))))] [(40, .ro 1 (exS l g tol k).1.length (elI (exS l g tol k).1)), (90, .ro 0 0 fun _ => []), (1000, .ro 2 l.length (elR l))])
    (fun k => k ≤ 2 ^ l.length) (fun k => 2 ^ l.length - k) 0 (Nat.zero_le _) (St.le_of rfl ⟨⟨_, rfl, Blk.le_refl _⟩, ⟨_, rfl, Blk.le_refl _⟩, ⟨_, rfl, Blk.le_refl _⟩, trivial⟩ ⟨rfl, rfl, rfl, rfl, rfl, rfl, trivial⟩) ?_
  rintro k hk
  have hsl := exS_len l g tol k
  refine G.seq ?_
  refine G.seqR tfine rfl ⟨by omega, trivial⟩ ?_
  rw [shl1 _ hn]
  refine G.cond (b := decide ((k : Int) < ((2 ^ l.length : Nat) : Int))) rfl (fun h2 => ?_) (fun h2 => ?_)
  rotate_left
  · have h2 := of_decide_eq_false h2
    have e : k = 2 ^ l.length := by generalize 2 ^ l.length = p at *; omega
    refine G.exit ?_
    refine G.seq ?_
    refine G.seqR tfine rfl trivial ?_
    rw [← e]
    refine G.cond (b := !(exS l g tol k).2) rfl (fun h3 => ?_) (fun h3 => ?_)
    · refine G.seqR tfine rfl trivial ?_
      rw [if_neg (fun hc => by rw [hc] at h3; cases h3)]
      exact G.ret (endAns.ret ⟨⟨_, rfl, rfl, rfl, fun a h => by cases h⟩, ⟨_, rfl, rfl⟩, trivial⟩)
    refine G.skip ?_
    refine G.seqR tfine rfl trivial ?_
    rw [if_pos (by simpa using h3)]
    exact G.ret (endAns.ret ⟨⟨_, rfl, rfl, Nat.le_refl _, _, _, rfl, Nat.le_refl _, fun i hi => rfl⟩, ⟨_, rfl, rfl⟩, trivial⟩)
  have h2 := of_decide_eq_true h2
  have hlt : k < 2 ^ l.length := by generalize 2 ^ l.length = p at *; omega
  have hk14 : k < 16384 := by generalize 2 ^ l.length = p at *; omega
  have hil := idsW_le l k l.length
  have em : 2 ^ l.length - (k + 1) < 2 ^ l.length - k := by generalize 2 ^ l.length = p at *; omega
  refine G.skip ?_
  refine G.seq ?_
  refine G.block ?_
  refine G.seq ?_
  refine G.seqC tfine rfl trivial ?_
  refine GO.callPlain (v := I (sumW l k l.length)) rfl rfl rfl rfl (fun args w => Try.call42 args w) (fun ρ w hs hok => refSum_any A c l k w (hs.row (cap := c) rfl (hok _ List.mem_cons_self)) hk14 hn) ?_
  refine GO.more tfine rfl trivial ?_
  refine GO.callPlain (v := I (difW l g k)) rfl rfl rfl rfl (fun args w => Try.call41 args w) (fun ρ w hs hok => refAbs_any (IntKind.i64.wrap (sumW l k l.length - g)) w) ?_
  refine GO.fin tfine rfl trivial ?_
  refine G.cond (b := decide (difW l g k > tol)) rfl (fun h3 => ?_) (fun h3 => ?_)
  · have hh : hitW l g tol k = false := by unfold hitW; have := of_decide_eq_true h3; simp only [decide_eq_false_iff_not]; omega
    have e : exS l g tol (k + 1) = exS l g tol k := by rw [exS, hh]; rfl
    refine G.exit ?_
    refine G.reg tfine rfl trivial ?_
    rw [IntWalk.i64_in ((k : Int) + 1) (by generalize 2 ^ l.length = p at *; omega)]
    refine ⟨k + 1, hlt, em, ?_⟩
    simp only []
    rw [e]
    exact St.le_of rfl ⟨⟨_, rfl, Blk.le_refl _⟩, ⟨_, rfl, Blk.le_refl _⟩, ⟨_, rfl, Blk.le_refl _⟩, trivial⟩ ⟨rfl, rfl, rfl, rfl, rfl, by simp [up, I], trivial⟩
  have hh : hitW l g tol k = true := by unfold hitW; have := of_decide_eq_false h3; simp only [decide_eq_true_eq]; omega
  refine G.skip ?_
  refine G.seqC tfine rfl trivial ?_
  refine GO.callAns [.c (.r (idsW l k l.length).length 1 (elI (idsW l k l.length)))] [41] rfl rfl rfl rfl ⟨rfl, rfl, rfl, trivial⟩ (fun args w => Try.call43 args w) (fun ρ w hs hok => refIds_any A c l k w (hs.row (cap := c) rfl (hok _ List.mem_cons_self)) hk14 hn) ?_
  refine GO.fin tfine rfl trivial ?_
  refine G.seqC tfine rfl ?_ ?_
  · simp [AllP, condB]
  refine GO.callGuard (.bool (befI (idsW l k l.length) (exS l g tol k).1)) rfl rfl rfl (by first | exact trivial | exact ⟨id, trivial⟩ | exact ⟨id, id, trivial⟩ | exact ⟨id, id, id, trivial⟩ | exact ⟨id, id, id, id, trivial⟩) rfl rfl (fun args w => Try.call44 args w) rfl (fun _ m' hle ρ w hs hok => ?_) ?_
  · exact before_any (rowAd ρ 41) (rowAd ρ 40) (ρ 91).1 (ρ 90).1 (idsW l k l.length) (exS l g tol k).1 w (hs.rowR (hle.at rfl) (hok _ List.mem_cons_self) (Nat.le_refl _)) (hs.rowR (hle.at rfl) (hok _ (List.mem_cons_of_mem _ List.mem_cons_self)) (Nat.le_refl _)) (by omega)
  refine GO.fin tfine rfl ?_ ?_
  · simp [AllP, condB]
  refine G.cond (b := ((!(exS l g tol k).2) || befI (idsW l k l.length) (exS l g tol k).1)) rfl (fun h4 => ?_) (fun h4 => ?_)
  · have e : exS l g tol (k + 1) = (idsW l k l.length, true) := by rw [exS, hh, Bool.true_and, if_pos h4]
    refine G.weaken (St.le_of (tl := [(0, .v (.c (.inp 1000 A l.length c))), (1, .v (.c (.k (I g)))), (2, .v (.c (.k (I tol)))), (11, .v (.c (.k (I k)))), (12, .v (.c (.row 41 (idsW l k l.length).length w.heap.size)))]) (ml := [(41, .ro 1 (idsW l k l.length).length (elI (idsW l k l.length))), (91, .ro 0 0 fun _ => []), (1000, .ro 2 l.length (elR l))]) rfl ⟨⟨_, rfl, Blk.le_refl _⟩, ⟨_, rfl, Blk.le_refl _⟩, ⟨_, rfl, Blk.le_refl _⟩, trivial⟩ ⟨rfl, rfl, rfl, rfl, rfl, trivial⟩) ?_
    refine G.renRow 41 40 12 rfl rfl rfl rfl rfl ?_
    refine G.reg tfine rfl trivial ?_
    refine G.reg tfine rfl trivial ?_
    rw [IntWalk.i64_in ((k : Int) + 1) (by generalize 2 ^ l.length = p at *; omega)]
    refine ⟨k + 1, hlt, em, ?_⟩
    simp only []
    rw [e]
    exact St.le_of rfl ⟨⟨_, rfl, Blk.le_refl _⟩, ⟨_, rfl, Blk.le_refl _⟩, ⟨_, rfl, Blk.le_refl _⟩, trivial⟩ ⟨rfl, rfl, rfl, rfl, rfl, by simp [up, I], trivial⟩
  have e : exS l g tol (k + 1) = exS l g tol k := by rw [exS, hh, Bool.true_and, if_neg (fne h4)]
  refine G.skip ?_
  refine G.reg tfine rfl trivial ?_
  rw [IntWalk.i64_in ((k : Int) + 1) (by generalize 2 ^ l.length = p at *; omega)]
  refine ⟨k + 1, hlt, em, ?_⟩
  simp only []
  rw [e]
  exact St.le_of rfl ⟨⟨_, rfl, Blk.le_refl _⟩, ⟨_, rfl, Blk.le_refl _⟩, ⟨_, rfl, Blk.le_refl _⟩, trivial⟩ ⟨rfl, rfl, rfl, rfl, rfl, by simp [up, I], trivial⟩
end Go.Proofs.Ytpoalimbjeehkaa
/- Chapter 38: Verify, the code's side. -/
set_option linter.unusedVariables false
set_option linter.unusedSimpArgs false
set_option maxRecDepth 8000
set_option maxHeartbeats 1000000
namespace Go.Proofs.Ytpoalimbjeehkaa
open Go.Sx Go.RowKit
theorem idClo_any (g : Nat) (id a b : Int) (w : World) (hg : w.heap[g]? = some (.cells #[I id] 3 (0, 0))) :
    Calls Try.prog 46 #[.agg #[I a, I b], .pointer (some ⟨g, 0, none⟩)] w fun e w' => e = .returned (.bool (a == id)) ∧ Below w.heap.size w w' := by
  refine enterCap tfine (g := g) 3 [.k (I id)] Try.func46 rfl 8 Try.ntmps46 [.agg [.k (I a), .k (I b)], .c (.ptr 1900 0 0 0)] [] trivial hg rfl rfl trivial ⟨trivial, trivial⟩ ⟨⟨trivial, trivial, trivial⟩, rfl, trivial⟩ ?_
  refine G.seqR tfine rfl trivial ?_
  refine G.seqR tfine rfl trivial ?_
  exact G.ret (endCap.ret rfl rfl rfl)
theorem indexFuncG_any (f : FuncId) (caps : List Value) (q : Rc → Bool) (hcf : ∀ args w, (callFunc f args).run Try.prog w = .ok (.enter f args) w) (A : Option Addr) (c : Nat) (l : List Rc) (w : World)
    (hf : ∀ a b w1, Below w.heap.size w w1 → Calls Try.prog f (#[.agg #[I a, I b]] ++ caps.toArray) w1 fun e w' => e = .returned (.bool (q (a, b))) ∧ Below w1.heap.size w1 w') (hl : RdRow w A l.length 2 (elR l)) (hm : l.length ≤ 1000000) :
    Calls Try.prog 45 #[.slice A l.length c, .func (.func f) #[] caps.toArray] w fun e w' => e = .returned (I (firstI (fun k => q (l.getD k (0, 0))) 0 l.length)) ∧ Below w.heap.size w w' := by
  refine enterPlain tfine Try.func45 rfl 19 Try.ntmps45 [.c (.inp 1000 A l.length c), .c (.k (.func (.func f) #[] caps.toArray))] [⟨1000, A, 2, l.length, elR l⟩] rfl rfl ⟨hl, trivial⟩ ⟨.inl ⟨rfl, rfl, rfl⟩, trivial, trivial⟩ ?_
  refine G.seqR tfine rfl trivial ?_
  refine G.seq (G.seqR tfine rfl trivial ?_)
  refine G.block (G.loop (fun k : Nat => St.of [(0, .v (.c (.inp 1000 A l.length c))), (1, .v (.c (.k (.func (.func f) #[] caps.toArray)))), (7, .v (.c (.k (I l.length)))), (8, .v (.c (.k (I k))))] [(1000, .ro 2 l.length (elR l))])
    (fun k => k ≤ l.length ∧ firstI (fun k => q (l.getD k (0, 0))) 0 l.length = firstI (fun k => q (l.getD k (0, 0))) k (l.length - k)) (fun k => l.length - k) 0 ⟨by omega, by simp⟩ (St.le_of rfl ⟨⟨_, rfl, Blk.le_refl _⟩, trivial⟩ ⟨rfl, rfl, rfl, rfl, trivial⟩) ?_)
  rintro k ⟨hk, hfi⟩
  refine G.seqR tfine rfl trivial ?_
  refine G.seq (G.cond rfl (fun h => ?_) (fun h => ?_))
  rotate_left
  · have h := of_decide_eq_false h
    have : k = l.length := by omega
    subst this
    refine G.exit ?_
    refine G.seqR tfine rfl trivial ?_
    refine G.ret (endK.ret rfl ?_)
    rw [hfi]
    simp [firstI]
  have h := of_decide_eq_true h
  have hlt : k < l.length := by omega
  refine G.skip ?_
  refine G.seq (G.block ?_)
  refine G.seqR tfine rfl trivial ?_
  refine G.seqC tfine rfl ⟨by simpa using hlt, by omega, by omega, trivial⟩ ?_
  rw [Int.toNat_natCast]
  refine GO.callPlain (v := .bool (q (l.getD k (0, 0)))) rfl rfl rfl rfl hcf (fun ρ w1 hs hok => ?_) (GO.nil ?_)
  · have := hf (l.getD k (0, 0)).1 (l.getD k (0, 0)).2 w1 hs.fr.toBelow
    have e : (List.map (AV.conc ρ) [AV.agg [.k (I (l.getD k (0, 0)).1), .k (I (l.getD k (0, 0)).2)]] ++ List.map (Cap.conc ρ) (caps.map Cap.val)).toArray = #[.agg #[I (l.getD k (0, 0)).1, I (l.getD k (0, 0)).2]] ++ caps.toArray := by
      have : List.map (Cap.conc ρ) (caps.map Cap.val) = caps := by
        rw [List.map_map]
        have : Cap.conc ρ ∘ Cap.val = id := rfl
        rw [this, List.map_id]
      rw [this]
      simp [AV.conc, AC.conc]
    rw [← e] at this
    exact this
  have hs : l.length - k = (l.length - (k + 1)) + 1 := by omega
  rw [hs, firstI] at hfi
  refine G.cond (b := q (l.getD k (0, 0))) rfl (fun h2 => ?_) (fun h2 => ?_)
  · refine G.seqR tfine rfl trivial ?_
    refine G.ret (endK.ret rfl ?_)
    rw [hfi, if_pos h2]
  · refine G.skip ?_
    refine G.reg tfine rfl trivial ?_
    rw [IntWalk.i64_in _ (by omega)]
    rw [if_neg (fne h2)] at hfi
    exact ⟨k + 1, ⟨by omega, hfi⟩, (by show l.length - (k + 1) < l.length - k; omega), St.le_of rfl ⟨⟨_, rfl, Blk.le_refl _⟩, trivial⟩ ⟨rfl, rfl, rfl, by simp [up, I], trivial⟩⟩
theorem firstI_lt2 (p : Nat → Bool) (k m : Nat) : firstI p k m < 0 ∨ firstI p k m < (k : Int) + m := by
  induction m generalizing k with
  | zero => left; show (-1 : Int) < 0; decide
  | succ m ih =>
    unfold firstI
    split
    · right; omega
    · have := ih (k + 1); omega
/-! ### What Verify answers -/
def badAt (cl : List Int) (k : Nat) : Bool := decide ((k : Int) > 0) && decide (cl.getD k 0 ≤ cl.getD (k - 1) 0)
def ascN (cl : List Int) : Bool := (List.range cl.length).any (badAt cl)
def idxR (l : List Rc) (id : Int) : Int := firstI (fun k => (l.getD k (0, 0)).1 == id) 0 l.length
def nfC (l : List Rc) (cl : List Int) : Bool := (List.range cl.length).any fun k => decide (idxR l (cl.getD k 0) < 0)
def sumC (l : List Rc) (cl : List Int) : Nat → Int
  | 0 => 0
  | k + 1 => IntKind.i64.wrap (sumC l cl k + (l.getD (idxR l (cl.getD k 0)).toNat (0, 0)).2)
def verR (l : List Rc) (g t : Int) (cl : List Int) : Int :=
  if (askR l g t != 0) = true then askR l g t else if ascN cl = true then 5 else if nfC l cl = true then 7 else if decide (absR (IntKind.i64.wrap (sumC l cl cl.length - g)) > t) = true then 14 else 0
theorem any_hit {n k : Nat} {p : Nat → Bool} (hk : k < n) (h : p k = true) : (List.range n).any p = true := List.any_eq_true.2 ⟨k, List.mem_range.2 hk, h⟩
theorem any_none {n : Nat} {p : Nat → Bool} (h : ∀ j, j < n → p j = false) : (List.range n).any p = false := List.any_eq_false.2 fun j hj => by rw [h j (List.mem_range.1 hj)]; decide
theorem preS {k : Nat} {p : Nat → Bool} (h : ∀ j, j < k → p j = false) (h2 : p k = false) : ∀ j, j < k + 1 → p j = false := fun j hj => by
  rcases Nat.lt_succ_iff_lt_or_eq.1 hj with h3 | rfl
  · exact h j h3
  · exact h2
theorem verify_any (A B : Option Addr) (c d : Nat) (l : List Rc) (g tol : Int) (cl : List Int) (w : World) (hl : RdRow w A l.length 2 (elR l)) (hb : RdRow w B cl.length 1 (elI cl)) (hm : cl.length ≤ 1000) :
    Calls Try.prog 18 #[.slice A l.length c, I g, I tol, .slice B cl.length d] w fun e w' => e = .returned (I (verR l g tol cl)) ∧ Below w.heap.size w w' := by
  refine enterPlain tfine Try.func18 rfl 67 Try.ntmps18 [.c (.inp 1000 A l.length c), .c (.k (I g)), .c (.k (I tol)), .c (.inp 1001 B cl.length d)] [⟨1000, A, 2, l.length, elR l⟩, ⟨1001, B, 1, cl.length, elI cl⟩] rfl rfl ⟨hl, hb, trivial⟩ ⟨.inl ⟨rfl, rfl, rfl⟩, trivial, trivial, .inr ⟨nx rfl, .inl ⟨rfl, rfl, rfl⟩⟩, trivial⟩ ?_
  refine G.seqR tfine rfl trivial ?_
  refine G.seq ?_
  refine G.seqC tfine rfl trivial ?_
  refine GO.callPlain (v := I (askR l g tol)) rfl rfl rfl rfl (fun args w => Try.call34 args w) (fun ρ w hs hok => asked_any A c l g tol w (hs.row (cap := c) rfl (hok _ List.mem_cons_self))) ?_
  refine GO.fin tfine rfl trivial ?_
  refine G.seqR tfine rfl trivial ?_
  refine G.cond (b := askR l g tol != 0) rfl (fun h => ?_) (fun h => ?_)
  · refine G.seqR tfine rfl trivial ?_
    refine G.ret (endK.ret rfl ?_)
    rw [verR, if_pos h]
  refine G.skip ?_
  have ha : askR l g tol = 0 := by simpa using h
  have hn := ask_len ha
  have hv : verR l g tol cl = if ascN cl = true then 5 else if nfC l cl = true then 7 else if decide (absR (IntKind.i64.wrap (sumC l cl cl.length - g)) > tol) = true then 14 else 0 := by rw [verR, if_neg (fne h)]
  rw [hv]
  refine G.seq ?_
  refine G.seqR tfine rfl trivial ?_
  refine G.block (G.loop (fun k : Nat => St.of [(0, .v (.c (.inp 1000 A l.length c))), (1, .v (.c (.k (I g)))), (2, .v (.c (.k (I tol)))), (3, .v (.c (.inp 1001 B cl.length d))), (23, .v (.c (.k (I cl.length)))), (24, .v (.c (.k (I k))))] [(1000, .ro 2 l.length (elR l)), (1001, .ro 1 cl.length (elI cl))])
    (fun k => k ≤ cl.length ∧ ∀ j, j < k → badAt cl j = false) (fun k => cl.length - k) 0 ⟨by omega, fun j hj => by omega⟩ (St.le_of rfl ⟨⟨_, rfl, Blk.le_refl _⟩, ⟨_, rfl, Blk.le_refl _⟩, trivial⟩ ⟨rfl, rfl, rfl, rfl, rfl, rfl, trivial⟩) ?_)
  rintro k ⟨hk, hpre⟩
  refine G.seqR tfine rfl trivial ?_
  refine G.seq ?_
  refine G.cond (b := decide ((k : Int) < (cl.length : Int))) rfl (fun h2 => ?_) (fun h2 => ?_)
  · have h2 := of_decide_eq_true h2
    have hlt : k < cl.length := by omega
    refine G.skip ?_
    refine G.seq ?_
    refine G.block ?_
    refine G.seqR tfine rfl trivial ?_
    have e0 : (IntKind.i64.wrap ((k : Int) - 1)).toNat = k - 1 := by
      rw [IntWalk.i64_in _ (by omega)]; omega
    refine G.seqD tfine hmix [0, 1, 3, 7, 7, 31, 63, 7, 7, 263, 903, 1927, 4095, 8191] [] rfl rfl rfl rfl ?_ ?_
    · rw [IntWalk.i64_in ((k : Int) - 1) (by omega)]
      simp [AllP, condB]
      try (and_intros <;> intros <;> first | omega | (and_intros <;> first | assumption | omega))
    rw [e0]
    refine G.cond (b := badAt cl k) rfl (fun h3 => ?_) (fun h3 => ?_)
    · refine G.seqR tfine rfl trivial ?_
      refine G.ret (endK.ret rfl ?_)
      rw [if_pos (show ascN cl = true from any_hit hlt h3)]
    refine G.skip ?_
    refine G.reg tfine rfl trivial ?_
    rw [IntWalk.i64_in ((k : Int) + 1) (by omega)]
    exact ⟨k + 1, ⟨by omega, preS hpre h3⟩, (by show cl.length - (k + 1) < cl.length - k; omega), St.le_of rfl ⟨⟨_, rfl, Blk.le_refl _⟩, ⟨_, rfl, Blk.le_refl _⟩, trivial⟩ ⟨rfl, rfl, rfl, rfl, rfl, by simp [up, I], trivial⟩⟩
  have h2 := of_decide_eq_false h2
  have : k = cl.length := by omega
  subst this
  rw [if_neg (fne (show ascN cl = false from any_none hpre))]
  clear hpre h2 hk
  refine G.exit ?_
  refine G.seqR tfine rfl trivial ?_
  refine G.seq ?_
  refine G.seqR tfine rfl trivial ?_
  refine G.block (G.loop (fun k : Nat => St.of [(0, .v (.c (.inp 1000 A l.length c))), (1, .v (.c (.k (I g)))), (2, .v (.c (.k (I tol)))), (3, .v (.c (.inp 1001 B cl.length d))), (11, .v (.c (.k (I (sumC l cl k))))), (42, .v (.c (.inp 1001 B cl.length d))), (43, .v (.c (.k (I cl.length)))), (44, .v (.c (.k (I k))))] [(1000, .ro 2 l.length (elR l)), (1001, .ro 1 cl.length (elI cl))])
    (fun k => k ≤ cl.length ∧ ∀ j, j < k → decide (idxR l (cl.getD j 0) < 0) = false) (fun k => cl.length - k) 0 ⟨by omega, fun j hj => by omega⟩ (St.le_of rfl ⟨⟨_, rfl, Blk.le_refl _⟩, ⟨_, rfl, Blk.le_refl _⟩, trivial⟩ ⟨rfl, rfl, rfl, rfl, rfl, rfl, rfl, rfl, trivial⟩) ?_)
  rintro k ⟨hk, hpre⟩
  refine G.seqR tfine rfl trivial ?_
  refine G.seq ?_
  refine G.cond (b := decide ((k : Int) < (cl.length : Int))) rfl (fun h2 => ?_) (fun h2 => ?_)
  · have h2 := of_decide_eq_true h2
    have hlt : k < cl.length := by omega
    refine G.skip ?_
    refine G.seq ?_
    refine G.block ?_
    refine G.seqR tfine rfl ⟨by simpa using hlt, by omega, by omega, trivial⟩ ?_
    rw [Int.toNat_natCast]
    refine G.seqC tfine rfl trivial ?_
    refine GO.callPlain (v := I (idxR l (cl.getD k 0))) rfl rfl rfl rfl (fun args w => Try.call45 args w) (fun ρ w1 hs hok => ?_) ?_
    · have k13 := hs.ok 13 _ rfl
      have lt13 := hs.lt (x := 13) rfl trivial
      have := indexFuncG_any 46 [.pointer (some ⟨(ρ 13).1, 0, none⟩)] (fun r => r.1 == cl.getD k 0) (fun args w => Try.call46 args w) A c l w1
        (fun a b w2 hb => idClo_any (ρ 13).1 (cl.getD k 0) a b w2 ((hb.block _ lt13).trans k13.2.2.1)) (hs.row (cap := c) rfl (hok _ List.mem_cons_self)) (by omega)
      have e13 : (ρ 13).2 = 0 := k13.1
      have e : (List.map (AV.conc ρ) [AV.c (.inp 1000 A l.length c), AV.c (.fn 46 [.own 13 0])] ++ List.map (Cap.conc ρ) []).toArray = #[.slice A l.length c, .func (.func 46) #[] [Value.pointer (some ⟨(ρ 13).1, 0, none⟩)].toArray] := by
        simp [AV.conc, AC.conc, Cap.conc, e13]
      rw [← e] at this
      exact this
    refine GO.fin tfine rfl trivial ?_
    refine G.seq ?_
    refine G.seqR tfine rfl trivial ?_
    refine G.cond (b := decide (idxR l (cl.getD k 0) < 0)) rfl (fun h3 => ?_) (fun h3 => ?_)
    · refine G.seqR tfine rfl trivial ?_
      refine G.ret (endK.ret rfl ?_)
      rw [if_pos (show nfC l cl = true from any_hit hlt h3)]
    have h3' := of_decide_eq_false h3
    have hlt3 : idxR l (cl.getD k 0) < l.length := by
      have e := firstI_lt2 (fun k' => (l.getD k' (0, 0)).1 == cl.getD k 0) 0 l.length
      unfold idxR
      omega
    refine G.skip ?_
    refine G.reg tfine rfl ⟨by omega, by omega, by omega, trivial⟩ ?_
    refine G.reg tfine rfl trivial ?_
    rw [IntWalk.i64_in ((k : Int) + 1) (by omega)]
    exact ⟨k + 1, ⟨by omega, preS hpre h3⟩, (by show cl.length - (k + 1) < cl.length - k; omega), St.le_of rfl ⟨⟨_, rfl, Blk.le_refl _⟩, ⟨_, rfl, Blk.le_refl _⟩, trivial⟩ ⟨rfl, rfl, rfl, rfl, rfl, rfl, rfl, by simp [up, I], trivial⟩⟩
  have h2 := of_decide_eq_false h2
  have : k = cl.length := by omega
  subst this
  rw [if_neg (fne (show nfC l cl = false from any_none hpre))]
  refine G.exit ?_
  refine G.seq ?_
  refine G.seqC tfine rfl trivial ?_
  refine GO.callPlain (v := I (absR (IntKind.i64.wrap (sumC l cl cl.length - g)))) rfl rfl rfl rfl (fun args w => Try.call37 args w) (fun ρ w hs hok => size_any (IntKind.i64.wrap (sumC l cl cl.length - g)) w) ?_
  refine GO.fin tfine rfl trivial ?_
  refine G.cond (b := decide (absR (IntKind.i64.wrap (sumC l cl cl.length - g)) > tol)) rfl (fun h3 => ?_) (fun h3 => ?_)
  · refine G.seqR tfine rfl trivial ?_
    refine G.ret (endK.ret rfl ?_)
    rw [if_pos h3]
  refine G.skip ?_
  refine G.seqR tfine rfl trivial ?_
  refine G.ret (endK.ret rfl ?_)
  rw [if_neg (fne h3)]
end Go.Proofs.Ytpoalimbjeehkaa
/- Chapter 38: Verify, the reference's side. -/
set_option linter.unusedVariables false
set_option linter.unusedSimpArgs false
set_option maxRecDepth 8000
set_option maxHeartbeats 1000000
namespace Go.Proofs.Ytpoalimbjeehkaa
open Go.Sx Go.RowKit
theorem chkF_ok (l : List Rc) : ∀ (c k : Nat), (chkF l k c).2 = 0 → ∀ j, k ≤ j → j < k + c → badR (l.getD j (0, 0)) = false ∧ (0 < j → (l.getD (j - 1) (0, 0)).1 < (l.getD j (0, 0)).1) := by
  intro c
  induction c with
  | zero => intro k _ j h1 h2; omega
  | succ c ih =>
    intro k h j h1 h2
    rw [chkF] at h
    by_cases hb : badR (l.getD k (0, 0)) = true
    · rw [if_pos hb] at h; exact absurd h (by simp)
    rw [if_neg hb] at h
    by_cases ho : (decide ((k : Int) > 0) && decide ((l.getD k (0, 0)).1 ≤ (l.getD (k - 1) (0, 0)).1)) = true
    · rw [if_pos ho] at h; exact absurd h (by simp)
    rw [if_neg ho] at h
    rcases Nat.eq_or_lt_of_le h1 with e | e
    · subst e
      refine ⟨by simpa using hb, fun h0 => ?_⟩
      simp only [Bool.and_eq_true, decide_eq_true_eq, not_and] at ho
      have := ho (by omega)
      omega
    · exact ih (k + 1) h j e (by omega)
theorem ask_right {l : List Rc} {g t : Int} (h : askR l g t = 0) : rightR l = true := by
  cases e : rightR l with
  | true => rfl
  | false => rw [askR, e] at h; cases h
theorem right_ok {l : List Rc} (h : rightR l = true) : ∀ j, j < l.length → badR (l.getD j (0, 0)) = false ∧ (0 < j → (l.getD (j - 1) (0, 0)).1 < (l.getD j (0, 0)).1) := by
  intro j hj
  have h : (chkR l).2 = 0 := by simpa [rightR] using h
  rw [chkR] at h
  split at h
  · exact absurd h (by decide)
  · exact chkF_ok l l.length 0 h j (Nat.zero_le _) (by omega)
theorem right_inc {l : List Rc} (h : rightR l = true) (i j : Nat) (hij : i < j) (hj : j < l.length) : (l.getD i (0, 0)).1 < (l.getD j (0, 0)).1 := by
  induction j with
  | zero => omega
  | succ j ih =>
    have h1 := (right_ok h (j + 1) hj).2 (by omega)
    rw [Nat.add_sub_cancel] at h1
    rcases Nat.lt_succ_iff_lt_or_eq.1 hij with h2 | rfl
    · have := ih h2 (by omega); omega
    · exact h1
theorem firstI_spec (p : Nat → Bool) : ∀ (m k : Nat), (firstI p k m < 0 ∧ ∀ j, k ≤ j → j < k + m → p j = false) ∨ ∃ j, k ≤ j ∧ j < k + m ∧ p j = true ∧ firstI p k m = (j : Int) := by
  intro m
  induction m with
  | zero => intro k; left; exact ⟨by show (-1 : Int) < 0; decide, fun j h1 h2 => by omega⟩
  | succ m ih =>
    intro k
    rw [firstI]
    by_cases hp : p k = true
    · rw [if_pos hp]; right; exact ⟨k, Nat.le_refl _, by omega, hp, rfl⟩
    · rw [if_neg hp]
      rcases ih (k + 1) with ⟨h1, h2⟩ | ⟨j, h1, h2, h3, h4⟩
      · left
        refine ⟨h1, fun j h3 h4 => ?_⟩
        rcases Nat.eq_or_lt_of_le h3 with e | e
        · subst e; simpa using hp
        · exact h2 j e (by omega)
      · right; exact ⟨j, by omega, by omega, h3, h4⟩
theorem idxR_eq {l : List Rc} (h : rightR l = true) (id : Int) (j : Nat) (hj : j < l.length) : ((l.getD j (0, 0)).1 == id) = decide (idxR l id = (j : Int)) := by
  unfold idxR
  rcases firstI_spec (fun k => (l.getD k (0, 0)).1 == id) l.length 0 with ⟨h1, h2⟩ | ⟨i, h1, h2, h3, h4⟩
  · have := h2 j (Nat.zero_le _) (by omega)
    rw [this]
    symm
    simp only [decide_eq_false_iff_not]
    omega
  · rw [h4]
    simp only [beq_iff_eq] at h3
    rcases Nat.lt_trichotomy i j with h5 | h5 | h5
    · have := right_inc h i j h5 hj
      rw [show ((l.getD j (0, 0)).1 == id) = false by simp only [beq_eq_false_iff_ne]; omega]
      symm; simp only [decide_eq_false_iff_not]; omega
    · subst h5; simp only [h3, beq_self_eq_true]; symm; simp
    · have := right_inc h j i h5 (by omega)
      rw [show ((l.getD j (0, 0)).1 == id) = false by simp only [beq_eq_false_iff_ne]; omega]
      symm; simp only [decide_eq_false_iff_not]; omega
def fdW (i : Int) (j : Nat) : Bool := decide (0 ≤ i) && decide (i < (j : Int))
def inW (l : List Rc) (cl : List Int) (k j : Nat) : Int := cond (fdW (idxR l (cl.getD k 0)) j) (sumC l cl (k + 1)) (sumC l cl k)
theorem refVerify_any (A B : Option Addr) (c d : Nat) (l : List Rc) (g tol : Int) (cl : List Int) (w : World) (hl : RdRow w A l.length 2 (elR l)) (hb : RdRow w B cl.length 1 (elI cl)) (hm : cl.length ≤ 1000) :
    Calls Try.prog 20 #[.slice A l.length c, I g, I tol, .slice B cl.length d] w fun e w' => e = .returned (I (verR l g tol cl)) ∧ Below w.heap.size w w' := by
  refine enterPlain tfine Try.func20 rfl 75 Try.ntmps20 [.c (.inp 1000 A l.length c), .c (.k (I g)), .c (.k (I tol)), .c (.inp 1001 B cl.length d)] [⟨1000, A, 2, l.length, elR l⟩, ⟨1001, B, 1, cl.length, elI cl⟩] rfl rfl ⟨hl, hb, trivial⟩ ⟨.inl ⟨rfl, rfl, rfl⟩, trivial, trivial, .inr ⟨nx rfl, .inl ⟨rfl, rfl, rfl⟩⟩, trivial⟩ ?_
  refine G.seqR tfine rfl trivial ?_
  refine G.seq ?_
  refine G.seqC tfine rfl trivial ?_
  refine GO.callPlain (v := I (askR l g tol)) rfl rfl rfl rfl (fun args w => Try.call40 args w) (fun ρ w hs hok => start_any A c l g tol w (hs.row (cap := c) rfl (hok _ List.mem_cons_self))) ?_
  refine GO.fin tfine rfl trivial ?_
  refine G.seqR tfine rfl trivial ?_
  refine G.cond (b := askR l g tol != 0) rfl (fun h => ?_) (fun h => ?_)
  · refine G.seqR tfine rfl trivial ?_
    refine G.ret (endK.ret rfl ?_)
    rw [verR, if_pos h]
  refine G.skip ?_
  have ha : askR l g tol = 0 := by simpa using h
  have hn := ask_len ha
  have hr := ask_right ha
  have hv : verR l g tol cl = if ascN cl = true then 5 else if nfC l cl = true then 7 else if decide (absR (IntKind.i64.wrap (sumC l cl cl.length - g)) > tol) = true then 14 else 0 := by rw [verR, if_neg (fne h)]
  rw [hv]
  refine G.seq ?_
  refine G.seqR tfine rfl trivial ?_
  refine G.block (G.loop (fun k : Nat => St.of [(0, .v (.c (.inp 1000 A l.length c))), (1, .v (.c (.k (I g)))), (2, .v (.c (.k (I tol)))), (3, .v (.c (.inp 1001 B cl.length d))), (10, .v (.c (.k (I k))))] [(1000, .ro 2 l.length (elR l)), (1001, .ro 1 cl.length (elI cl))])
    (fun k => 1 ≤ k ∧ k ≤ cl.length + 1 ∧ ∀ j, j < k → badAt cl j = false) (fun k => cl.length + 1 - k) 1 ⟨by omega, by omega, fun j hj => by rw [show j = 0 by omega]; rfl⟩ (St.le_of rfl ⟨⟨_, rfl, Blk.le_refl _⟩, ⟨_, rfl, Blk.le_refl _⟩, trivial⟩ ⟨rfl, rfl, rfl, rfl, rfl, trivial⟩) ?_)
  rintro k ⟨hk1, hk, hpre⟩
  refine G.seq ?_
  refine G.seqR tfine rfl trivial ?_
  refine G.cond (b := decide ((k : Int) < (cl.length : Int))) rfl (fun h2 => ?_) (fun h2 => ?_)
  · have h2 := of_decide_eq_true h2
    have hlt : k < cl.length := by omega
    refine G.skip ?_
    refine G.seq ?_
    refine G.block ?_
    have e0 : (IntKind.i64.wrap ((k : Int) - 1)).toNat = k - 1 := by
      rw [IntWalk.i64_in _ (by omega)]; omega
    refine G.seqD tfine hmix [0, 0, 2, 7, 15, 0, 0, 96, 224, 511] [] rfl rfl rfl rfl ?_ ?_
    · rw [IntWalk.i64_in ((k : Int) - 1) (by omega)]
      simp [AllP, condB]
      try (and_intros <;> intros <;> first | omega | (and_intros <;> first | assumption | omega))
    rw [e0, Int.toNat_natCast]
    have eb : badAt cl k = decide (cl.getD (k - 1) 0 ≥ cl.getD k 0) := by
      unfold badAt
      rw [show decide ((k : Int) > 0) = true by simp only [decide_eq_true_eq]; omega, Bool.true_and]
    refine G.cond (b := decide (cl.getD (k - 1) 0 ≥ cl.getD k 0)) rfl (fun h3 => ?_) (fun h3 => ?_)
    · refine G.seqR tfine rfl trivial ?_
      refine G.ret (endK.ret rfl ?_)
      rw [if_pos (show ascN cl = true from any_hit hlt (eb.trans h3))]
    refine G.skip ?_
    refine G.reg tfine rfl trivial ?_
    rw [IntWalk.i64_in ((k : Int) + 1) (by omega)]
    exact ⟨k + 1, ⟨by omega, by omega, preS hpre (eb.trans h3)⟩, (by show cl.length + 1 - (k + 1) < cl.length + 1 - k; omega), St.le_of rfl ⟨⟨_, rfl, Blk.le_refl _⟩, ⟨_, rfl, Blk.le_refl _⟩, trivial⟩ ⟨rfl, rfl, rfl, rfl, by simp [up, I], trivial⟩⟩
  have h2 := of_decide_eq_false h2
  rw [if_neg (fne (show ascN cl = false from any_none fun j hj => hpre j (by omega)))]
  clear hpre h2 hk hk1
  refine G.exit ?_
  refine G.seqR tfine rfl trivial ?_
  refine G.seq ?_
  refine G.seqR tfine rfl trivial ?_
  refine G.block (G.loop (fun k : Nat => St.of [(0, .v (.c (.inp 1000 A l.length c))), (1, .v (.c (.k (I g)))), (2, .v (.c (.k (I tol)))), (3, .v (.c (.inp 1001 B cl.length d))), (11, .v (.c (.k (I (sumC l cl k))))), (12, .v (.c (.k (I k))))] [(1000, .ro 2 l.length (elR l)), (1001, .ro 1 cl.length (elI cl))])
    (fun k => k ≤ cl.length ∧ ∀ j, j < k → decide (idxR l (cl.getD j 0) < 0) = false) (fun k => cl.length - k) 0 ⟨by omega, fun j hj => by omega⟩ (St.le_of rfl ⟨⟨_, rfl, Blk.le_refl _⟩, ⟨_, rfl, Blk.le_refl _⟩, trivial⟩ ⟨rfl, rfl, rfl, rfl, rfl, rfl, trivial⟩) ?_)
  rintro k ⟨hk, hpre⟩
  refine G.seq ?_
  refine G.seqR tfine rfl trivial ?_
  refine G.cond (b := decide ((k : Int) < (cl.length : Int))) rfl (fun h2 => ?_) (fun h2 => ?_)
  · have h2 := of_decide_eq_true h2
    have hlt : k < cl.length := by omega
    refine G.skip ?_
    refine G.seq ?_
    refine G.block ?_
    refine G.seqR tfine rfl trivial ?_
    refine G.seq ?_
    refine G.seqR tfine rfl trivial ?_
    have hi := firstI_lt2 (fun k' => (l.getD k' (0, 0)).1 == cl.getD k 0) 0 l.length
    rw [show firstI (fun k' => (l.getD k' (0, 0)).1 == cl.getD k 0) 0 l.length = idxR l (cl.getD k 0) from rfl] at hi
    have hie : ∀ j, j < l.length → ((l.getD j (0, 0)).1 == cl.getD k 0) = decide (idxR l (cl.getD k 0) = (j : Int)) := fun j hj => idxR_eq hr (cl.getD k 0) j hj
    have hsc : sumC l cl (k + 1) = IntKind.i64.wrap (sumC l cl k + (l.getD (idxR l (cl.getD k 0)).toNat (0, 0)).2) := rfl
    have hin : ∀ j, inW l cl k j = cond (fdW (idxR l (cl.getD k 0)) j) (sumC l cl (k + 1)) (sumC l cl k) := fun j => rfl
    have hi0 : inW l cl k 0 = sumC l cl k := by
      rw [hin, show fdW (idxR l (cl.getD k 0)) 0 = false by unfold fdW; simp]
      rfl
    have hf0 : fdW (idxR l (cl.getD k 0)) 0 = false := by unfold fdW; simp
    refine G.block (G.loop (fun j : Nat => St.of [(0, .v (.c (.inp 1000 A l.length c))), (1, .v (.c (.k (I g)))), (2, .v (.c (.k (I tol)))), (3, .v (.c (.inp 1001 B cl.length d))), (11, .v (.c (.k (I (inW l cl k j))))), (12, .v (.c (.k (I k)))), (13, .v (.c (.k (.bool (fdW (idxR l (cl.getD k 0)) j))))), (14, .v (.c (.k (I j))))] [(1000, .ro 2 l.length (elR l)), (1001, .ro 1 cl.length (elI cl))])
      (fun j => j ≤ l.length) (fun j => l.length - j) 0 (Nat.zero_le _) (St.le_of rfl ⟨⟨_, rfl, Blk.le_refl _⟩, ⟨_, rfl, Blk.le_refl _⟩, trivial⟩ ⟨rfl, rfl, rfl, rfl, by rw [hi0]; rfl, rfl, by rw [hf0]; rfl, rfl, trivial⟩) ?_)
    rintro j hj
    refine G.seq ?_
    refine G.seqR tfine rfl trivial ?_
    refine G.cond (b := decide ((j : Int) < (l.length : Int))) rfl (fun h3 => ?_) (fun h3 => ?_)
    · have h3 := of_decide_eq_true h3
      have hltj : j < l.length := by omega
      refine G.skip ?_
      refine G.seq ?_
      refine G.block ?_
      refine G.seqD tfine hmix [0, 0, 3, 7, 15, 0, 0, 96, 224, 511] [] rfl rfl rfl rfl ⟨by simpa using hlt, by omega, by omega, by simpa using hltj, by omega, by omega, trivial⟩ ?_
      simp only [Int.toNat_natCast]
      have hx := hie j hltj
      refine G.cond (b := (l.getD j (0, 0)).1 == cl.getD k 0) rfl (fun h4 => ?_) (fun h4 => ?_)
      · rw [hx] at h4
        have h4 := of_decide_eq_true h4
        have e1 : fdW (idxR l (cl.getD k 0)) j = false := by rw [h4]; unfold fdW; simp
        have e2 : fdW (idxR l (cl.getD k 0)) (j + 1) = true := by rw [h4]; unfold fdW; simp only [Bool.and_eq_true, decide_eq_true_eq]; omega
        refine G.reg tfine rfl ⟨by omega, by omega, by omega, trivial⟩ ?_
        rw [Int.toNat_natCast]
        refine G.reg tfine rfl trivial ?_
        rw [IntWalk.i64_in ((j : Int) + 1) (by omega)]
        refine ⟨j + 1, hltj, (by show l.length - (j + 1) < l.length - j; omega), St.le_of rfl ⟨⟨_, rfl, Blk.le_refl _⟩, ⟨_, rfl, Blk.le_refl _⟩, trivial⟩ ⟨rfl, rfl, rfl, rfl, ?_, rfl, by rw [e2]; rfl, by simp [up, I], trivial⟩⟩
        rw [hin (j + 1), e2, cond_true, hsc, h4, Int.toNat_natCast, hin j, e1]
        rfl
      rw [hx] at h4
      have h4 := of_decide_eq_false h4
      have e1 : fdW (idxR l (cl.getD k 0)) (j + 1) = fdW (idxR l (cl.getD k 0)) j := by
        unfold fdW
        rw [show decide (idxR l (cl.getD k 0) < ((j + 1 : Nat) : Int)) = decide (idxR l (cl.getD k 0) < (j : Int)) from decide_eq_decide.2 (by omega)]
      refine G.skip ?_
      refine G.reg tfine rfl trivial ?_
      rw [IntWalk.i64_in ((j : Int) + 1) (by omega)]
      exact ⟨j + 1, hltj, (by show l.length - (j + 1) < l.length - j; omega), St.le_of rfl ⟨⟨_, rfl, Blk.le_refl _⟩, ⟨_, rfl, Blk.le_refl _⟩, trivial⟩ ⟨rfl, rfl, rfl, rfl, by rw [hin (j + 1), e1]; rfl, rfl, by rw [e1]; rfl, by simp [up, I], trivial⟩⟩
    have h3 := of_decide_eq_false h3
    have : j = l.length := by omega
    subst this
    refine G.exit ?_
    refine G.seqR tfine rfl trivial ?_
    have ef : (!(fdW (idxR l (cl.getD k 0)) l.length)) = decide (idxR l (cl.getD k 0) < 0) := by
      unfold fdW
      by_cases hneg : idxR l (cl.getD k 0) < 0
      · rw [show decide (0 ≤ idxR l (cl.getD k 0)) = false by simp only [decide_eq_false_iff_not]; omega, show decide (idxR l (cl.getD k 0) < 0) = true by simpa using hneg]; rfl
      · rw [show decide (0 ≤ idxR l (cl.getD k 0)) = true by simp only [decide_eq_true_eq]; omega, show decide (idxR l (cl.getD k 0) < 0) = false by simpa using hneg, show decide (idxR l (cl.getD k 0) < (l.length : Int)) = true by simp only [decide_eq_true_eq]; omega]; rfl
    refine G.cond (b := !(fdW (idxR l (cl.getD k 0)) l.length)) rfl (fun h4 => ?_) (fun h4 => ?_)
    · refine G.seqR tfine rfl trivial ?_
      refine G.ret (endK.ret rfl ?_)
      rw [if_pos (show nfC l cl = true from any_hit hlt (ef.symm.trans h4))]
    have e1 : fdW (idxR l (cl.getD k 0)) l.length = true := by simpa using h4
    refine G.skip ?_
    refine G.reg tfine rfl trivial ?_
    rw [IntWalk.i64_in ((k : Int) + 1) (by omega)]
    exact ⟨k + 1, ⟨by omega, preS hpre (ef.symm.trans h4)⟩, (by show cl.length - (k + 1) < cl.length - k; omega), St.le_of rfl ⟨⟨_, rfl, Blk.le_refl _⟩, ⟨_, rfl, Blk.le_refl _⟩, trivial⟩ ⟨rfl, rfl, rfl, rfl, by rw [show sumC l cl (k + 1) = inW l cl k l.length by rw [hin l.length, e1]; rfl]; rfl, by simp [up, I], trivial⟩⟩
  have h2 := of_decide_eq_false h2
  have : k = cl.length := by omega
  subst this
  rw [if_neg (fne (show nfC l cl = false from any_none hpre))]
  refine G.exit ?_
  refine G.seq ?_
  refine G.seqC tfine rfl trivial ?_
  refine GO.callPlain (v := I (absR (IntKind.i64.wrap (sumC l cl cl.length - g)))) rfl rfl rfl rfl (fun args w => Try.call41 args w) (fun ρ w hs hok => refAbs_any (IntKind.i64.wrap (sumC l cl cl.length - g)) w) ?_
  refine GO.fin tfine rfl trivial ?_
  refine G.cond (b := decide (absR (IntKind.i64.wrap (sumC l cl cl.length - g)) > tol)) rfl (fun h3 => ?_) (fun h3 => ?_)
  · refine G.seqR tfine rfl trivial ?_
    refine G.ret (endK.ret rfl ?_)
    rw [if_pos h3]
  refine G.skip ?_
  refine G.seqR tfine rfl trivial ?_
  refine G.ret (endK.ret rfl ?_)
  rw [if_neg (fne h3)]
end Go.Proofs.Ytpoalimbjeehkaa
/- Chapter 38: copies, few records, equal lists, the example and what is awake. -/
set_option linter.unusedVariables false
set_option linter.unusedSimpArgs false
set_option maxRecDepth 8000
set_option maxHeartbeats 1000000
namespace Go.Proofs.Ytpoalimbjeehkaa
open Go.Sx Go.RowKit
theorem apRc : ApT Try.prog 22 32 2 16 (.agg #[I 0, I 0]) := ⟨by kernel_rfl, by kernel_rfl, rfl, by decide⟩
theorem cloneRc_any (A : Option Addr) (c : Nat) (l : List Rc) (w : World) (hl : RdRow w A l.length 2 (elR l)) (hm : l.length ≤ 1000000) :
    Calls Try.prog 13 #[.slice A l.length c] w fun e w' => Ans w w' [.c (.r l.length 2 (elR l))] e ∧ Below w.heap.size w w' := by
  refine enterAns tfine _ Try.func13 rfl 8 Try.ntmps13 [.c (.inp 1000 A l.length c)] [⟨1000, A, 2, l.length, elR l⟩] rfl rfl ⟨hl, trivial⟩ ⟨.inl ⟨rfl, rfl, rfl⟩, trivial⟩ ?_
  refine G.seqR tfine rfl trivial ?_
  refine G.seq (G.seqR tfine rfl trivial ?_)
  refine G.cond rfl (fun h => ?_) (fun h => ?_)
  · refine G.seqR tfine rfl trivial ?_
    have hA : A = none := by cases A <;> simp at h ⊢
    have h0 := row_none hl hA
    exact G.ret (endAns.ret ⟨⟨_, rfl, h0.symm, h0, fun a h => by cases h⟩, trivial⟩)
  refine G.skip ?_
  refine G.seqC tfine rfl trivial ?_
  refine GO.emptySliceS tfine rfl rfl rfl rfl rfl rfl rfl fun A0 hA0 => ?_
  refine GO.more tfine rfl trivial ?_
  refine GO.appendNew (elR l) apRc rfl rfl rfl rfl rfl rfl rfl rfl (RowOf.ro rfl) (fun i hi => rfl) (fun i hi u hu => by simp [elR] at hu; rcases hu with rfl | rfl <;> rfl) (by unfold maxLen; omega) (by omega) (fun h0 => ?_) fun h0 c' hc' => ?_
  · refine GO.fin tfine rfl trivial ?_
    exact G.ret (endAns.ret ⟨⟨_, rfl, h0.symm, h0, hA0⟩, trivial⟩)
  · refine GO.fin tfine rfl trivial ?_
    exact G.ret (endAns.ret ⟨⟨_, rfl, hc', rfl, rfl, rfl, by omega, fun i hi => by rw [Nat.zero_add]⟩, trivial⟩)
theorem cloneIs_any (A : Option Addr) (c : Nat) (L : List Int) (w : World) (hl : RdRow w A L.length 1 (elI L)) (hm : L.length ≤ 1000000) :
    Calls Try.prog 19 #[.slice A L.length c] w fun e w' => Ans w w' [.c (.r L.length 1 (elI L))] e ∧ Below w.heap.size w w' :=
  cloneI_any A c L.length (elI L) w hl (fun i hi => rfl) (fun i hi u hu => by simp [elI] at hu; subst hu; rfl) hm
def fewRc (l : List Rc) : Bool := decide ((l.length : Int) ≤ 8) || ((l.length : Int) == 15)
theorem fewRc_any (A : Option Addr) (c : Nat) (l : List Rc) (w : World) (hl : RdRow w A l.length 2 (elR l)) : Calls Try.prog 11 #[.slice A l.length c] w fun e w' => e = .returned (.bool (fewRc l)) ∧ Below w.heap.size w w' := by
  refine enterPlain tfine Try.func11 rfl 11 Try.ntmps11 [.c (.inp 1000 A l.length c)] [⟨1000, A, 2, l.length, elR l⟩] rfl rfl ⟨hl, trivial⟩ ⟨.inl ⟨rfl, rfl, rfl⟩, trivial⟩ ?_
  refine G.seqR tfine rfl trivial ?_
  refine G.seqR tfine rfl ?_ ?_
  · first | trivial | (simp [AllP, condB]; done) | (simp only [AllP]; and_intros <;> first | trivial | decide | omega) | (simp [AllP, condB]; intros; and_intros <;> first | assumption | omega) | (simp [AllP, condB]; intros; simp_all; done) | (simp [AllP, condB]; intros; simp_all; omega) | (simp [AllP, condB]; omega)
  exact G.ret (endK.ret rfl rfl)
theorem fewRc_len {l : List Rc} (h : fewRc l = true) : l.length ≤ 8 ∨ 14 < l.length := by
  simp only [fewRc, Bool.or_eq_true, decide_eq_true_eq, beq_iff_eq] at h
  omega
theorem same_any (A B : Option Addr) (c d : Nat) (a b : List Int) (w : World) (h1 : RdRow w A a.length 1 (elI a)) (h2 : RdRow w B b.length 1 (elI b)) (m1 : a.length ≤ 1000000) :
    Calls Try.prog 17 #[.slice A a.length c, .slice B b.length d] w fun e w' => e = .returned (.bool (eqI a b)) ∧ Below w.heap.size w w' := by
  refine enterPlain tfine Try.func17 rfl 26 Try.ntmps17 [.c (.inp 1000 A a.length c), .c (.inp 1001 B b.length d)] [⟨1000, A, 1, a.length, elI a⟩, ⟨1001, B, 1, b.length, elI b⟩] rfl rfl ⟨h1, h2, trivial⟩ ⟨.inl ⟨rfl, rfl, rfl⟩, .inr ⟨nx rfl, .inl ⟨rfl, rfl, rfl⟩⟩, trivial⟩ ?_
  refine G.seqR tfine rfl trivial ?_
  refine G.seq ?_
  refine G.seqR tfine rfl trivial ?_
  refine G.cond (b := ((a.length : Int) != (b.length : Int))) rfl (fun h => ?_) (fun h => ?_)
  · refine G.seqR tfine rfl trivial ?_
    refine G.ret (endK.ret rfl ?_)
    have : ((a.length : Int) == (b.length : Int)) = false := by simpa using h
    rw [eqI, this]
    rfl
  have hlen : a.length = b.length := by
    have : ((a.length : Int)) = (b.length : Int) := by simpa using h
    omega
  have hq : eqI a b = !((List.range' 0 a.length).any fun k => a.getD k 0 != b.getD k 0) := by
    rw [eqI, hlen]; simp
  rw [hq]
  refine G.skip ?_
  refine G.seq (G.seqR tfine rfl trivial ?_)
  refine G.block (G.loop (fun k : Nat => St.of [(0, .v (.c (.inp 1000 A a.length c))), (1, .v (.c (.inp 1001 B b.length d))), (5, .v (.c (.k (I k))))] [(1000, .ro 1 a.length (elI a)), (1001, .ro 1 b.length (elI b))])
    (fun k => k ≤ a.length ∧ (List.range' 0 a.length).any (fun k => a.getD k 0 != b.getD k 0) = (List.range' k (a.length - k)).any (fun k => a.getD k 0 != b.getD k 0)) (fun k => a.length - k) 0 ⟨by omega, rfl⟩ (St.le_of rfl ⟨⟨_, rfl, Blk.le_refl _⟩, ⟨_, rfl, Blk.le_refl _⟩, trivial⟩ ⟨rfl, rfl, rfl, trivial⟩) ?_)
  rintro k ⟨hk, hfi⟩
  refine G.seq ?_
  refine G.seqR tfine rfl trivial ?_
  refine G.cond rfl (fun h => ?_) (fun h => ?_)
  rotate_left
  · have h := of_decide_eq_false h
    have : k = a.length := by omega
    subst this
    refine G.exit ?_
    refine G.seqR tfine rfl trivial ?_
    refine G.ret (endK.ret rfl ?_)
    rw [hfi, Nat.sub_self]
    rfl
  have h := of_decide_eq_true h
  have hlt : k < a.length := by omega
  rw [any_step hlt] at hfi
  refine G.skip ?_
  refine G.seq (G.block ?_)
  refine G.seqD tfine hmix [0, 0, 3, 7, 0, 0, 48, 112, 255] [] rfl rfl rfl rfl ?_ ?_
  · simp [AllP]
    omega
  rw [Int.toNat_natCast]
  refine G.cond (b := (a.getD k 0 != b.getD k 0)) rfl (fun h2 => ?_) (fun h2 => ?_)
  · refine G.seqR tfine rfl trivial ?_
    refine G.ret (endK.ret rfl ?_)
    rw [hfi, h2]
    rfl
  · rw [h2, Bool.false_or] at hfi
    refine G.skip ?_
    refine G.reg tfine rfl trivial ?_
    rw [IntWalk.i64_in ((k : Int) + 1) (by omega)]
    exact ⟨k + 1, ⟨by omega, hfi⟩, (by show a.length - (k + 1) < a.length - k; omega), St.le_of rfl ⟨⟨_, rfl, Blk.le_refl _⟩, ⟨_, rfl, Blk.le_refl _⟩, trivial⟩ ⟨rfl, rfl, by simp [up, I], trivial⟩⟩
def exR : List Rc := [(1, 30), (2, 50), (5, -10), (9, 20)]
theorem exampleR_any (w : World) : Calls Try.prog 31 #[] w fun e w' => Ans w w' [.c (.r 4 2 (elR exR))] e ∧ Below w.heap.size w w' := by
  refine enterAns tfine _ Try.func31 rfl 6 Try.ntmps31 [] [] rfl rfl trivial trivial ?_
  refine G.seqR tfine rfl trivial ?_
  refine G.seqR tfine rfl trivial ?_
  refine G.ret (endAns.ret ⟨⟨_, rfl, by decide, rfl, rfl, ⟨[I 1, I 30, I 2, I 50, I 5, I (-10), I 9, I 20], rfl, by decide, fun i hi => ?_⟩⟩, trivial⟩)
  match i, hi with
  | 0, _ => rfl
  | 1, _ => rfl
  | 2, _ => rfl
  | 3, _ => rfl
theorem ex_ex0 : exA exR 40 0 = ([2, 5], 0) := by decide +kernel
theorem ex_ex10 : exA exR 40 10 = ([1], 0) := by decide +kernel
theorem ex_cnt : cntR exR 40 0 = (2, 0) := by decide +kernel
theorem ex_near : nearR exR 200 = (100, 0) := by decide +kernel
theorem ex_ver : verR exR 40 0 [1, 5, 9] = 0 := by decide +kernel
theorem ex_eqA : eqI [2, 5] [2, 5] = true := by decide +kernel
theorem ex_eqB : eqI [1] [1] = true := by decide +kernel
theorem awakeG_any (w : World) : Calls Try.prog 10 #[] w fun e w' => e = .returned (.bool true) ∧ Below w.heap.size w w' := by
  refine enterPlain tfine Try.func10 rfl 61 Try.ntmps10 [] [] rfl rfl trivial trivial ?_
  refine G.seqR tfine rfl trivial ?_
  refine G.seqC tfine rfl trivial ?_
  refine GO.callAns [.c (.r 4 2 (elR exR))] [800] rfl rfl rfl rfl ⟨rfl, rfl, rfl, trivial⟩ (fun args w => Try.call31 args w) (fun ρ w hs hok => exampleR_any w) ?_
  refine GO.callAns [.c (.r 2 1 (elI [2, 5])), .c (.p (I 0))] [801] rfl rfl rfl rfl ⟨rfl, rfl, rfl, trivial⟩ (fun args w => Try.call15 args w) (fun ρ w hs hok => ?_) ?_
  · have := explain_any (rowAd ρ 800) (ρ 850).1 exR 40 0 w (hs.rowR rfl (hok _ List.mem_cons_self) (Nat.le_refl _)) (by decide)
    rw [ex_ex0] at this
    exact this
  refine GO.fin tfine rfl trivial ?_
  refine G.seqC tfine rfl trivial ?_
  refine GO.callAns [.c (.r 4 2 (elR exR))] [802] rfl rfl rfl rfl ⟨rfl, rfl, rfl, trivial⟩ (fun args w => Try.call31 args w) (fun ρ w hs hok => exampleR_any w) ?_
  refine GO.callAns [.c (.r 1 1 (elI [1])), .c (.p (I 0))] [803] rfl rfl rfl rfl ⟨rfl, rfl, rfl, trivial⟩ (fun args w => Try.call15 args w) (fun ρ w hs hok => ?_) ?_
  · have := explain_any (rowAd ρ 802) (ρ 852).1 exR 40 10 w (hs.rowR rfl (hok _ List.mem_cons_self) (Nat.le_refl _)) (by decide)
    rw [ex_ex10] at this
    exact this
  refine GO.fin tfine rfl trivial ?_
  refine G.seqC tfine rfl trivial ?_
  refine GO.callAns [.c (.r 4 2 (elR exR))] [804] rfl rfl rfl rfl ⟨rfl, rfl, rfl, trivial⟩ (fun args w => Try.call31 args w) (fun ρ w hs hok => exampleR_any w) ?_
  refine GO.callPlain (v := .tuple #[I 2, I 0]) rfl rfl rfl rfl (fun args w => Try.call21 args w) (fun ρ w hs hok => ?_) ?_
  · have := count_any (rowAd ρ 804) (ρ 854).1 exR 40 0 w (hs.rowR rfl (hok _ List.mem_cons_self) (Nat.le_refl _))
    rw [ex_cnt] at this
    exact this
  refine GO.fin tfine rfl trivial ?_
  refine G.seqC tfine rfl trivial ?_
  refine GO.callAns [.c (.r 4 2 (elR exR))] [805] rfl rfl rfl rfl ⟨rfl, rfl, rfl, trivial⟩ (fun args w => Try.call31 args w) (fun ρ w hs hok => exampleR_any w) ?_
  refine GO.callPlain (v := .tuple #[I 100, I 0]) rfl rfl rfl rfl (fun args w => Try.call23 args w) (fun ρ w hs hok => ?_) ?_
  · have := nearest_any (rowAd ρ 805) (ρ 855).1 exR 200 w (hs.rowR rfl (hok _ List.mem_cons_self) (Nat.le_refl _))
    rw [ex_near] at this
    exact this
  refine GO.fin tfine rfl trivial ?_
  refine G.seqC tfine rfl trivial ?_
  refine GO.callPlain (v := .bool true) rfl rfl rfl rfl (fun args w => Try.call25 args w) (fun ρ w hs hok => ?_) ?_
  · have := equal_any (rowAd ρ 801) (some ⟨(ρ 30).1, (ρ 30).2 + 0 * 1, none⟩) (ρ 851).1 2 [2, 5] [2, 5] w (hs.rowR rfl (hok _ List.mem_cons_self) (Nat.le_refl _)) (RdRow.congr (hs.rdVar (x := 30) (ty := 3) (vs := [I 2, I 5]) (sz := 1) rfl 0 2 (by decide)) fun i hi => by match i, hi with | 0, _ => rfl | 1, _ => rfl) (by decide)
    rw [ex_eqA] at this
    exact this
  refine GO.more tfine rfl ?_ ?_
  · first | trivial | (simp [AllP, condB]; done)
  refine GO.steps (Steps.opT tfine rfl rfl rfl (by first | exact trivial | exact ⟨id, trivial⟩ | exact ⟨id, id, trivial⟩ | exact ⟨id, id, id, trivial⟩ | exact ⟨id, id, id, id, trivial⟩) rfl rfl trivial) ?_
  refine GO.callGuard (.bool true) rfl rfl rfl (by first | exact trivial | exact ⟨id, trivial⟩ | exact ⟨id, id, trivial⟩ | exact ⟨id, id, id, trivial⟩ | exact ⟨id, id, id, id, trivial⟩) rfl rfl (fun args w => Try.call25 args w) rfl (fun _ m' hle ρ w hs hok => ?_) ?_
  · have := equal_any (rowAd ρ 803) (some ⟨(ρ 34).1, (ρ 34).2 + 0 * 1, none⟩) (ρ 853).1 1 [1] [1] w (hs.rowR (hle.at rfl) (hok _ List.mem_cons_self) (Nat.le_refl _)) (RdRow.congr (hs.rdVar (x := 34) (ty := 3) (vs := [I 1]) (sz := 1) (hle.at rfl) 0 1 (by decide)) fun i hi => by match i, hi with | 0, _ => rfl) (by decide)
    rw [ex_eqB] at this
    exact this
  refine GO.more tfine rfl ?_ ?_
  · first | trivial | (simp [AllP, condB]; done) | (simp only [AllP]; and_intros <;> first | trivial | decide | omega) | (simp [AllP, condB]; intros; and_intros <;> first | assumption | omega) | (simp [AllP, condB]; intros; simp_all; done) | (simp [AllP, condB]; intros; simp_all; omega) | (simp [AllP, condB]; omega)
  refine GO.steps (Steps.callAnsT [.c (.r 4 2 (elR exR))] [806] rfl rfl rfl rfl (by first | exact trivial | exact ⟨id, trivial⟩ | exact ⟨id, id, trivial⟩ | exact ⟨id, id, id, trivial⟩ | exact ⟨id, id, id, id, trivial⟩) rfl rfl ⟨rfl, rfl, rfl, trivial⟩ (fun args w => Try.call31 args w) rfl (fun m' hle ρ w hs hok => exampleR_any w)) ?_
  refine GO.steps (Steps.opT tfine rfl rfl rfl (by first | exact trivial | exact ⟨id, trivial⟩ | exact ⟨id, id, trivial⟩ | exact ⟨id, id, id, trivial⟩ | exact ⟨id, id, id, id, trivial⟩) rfl rfl trivial) ?_
  refine GO.callGuard (I 0) rfl rfl rfl (by first | exact trivial | exact ⟨id, trivial⟩ | exact ⟨id, id, trivial⟩ | exact ⟨id, id, id, trivial⟩ | exact ⟨id, id, id, id, trivial⟩) rfl rfl (fun args w => Try.call18 args w) rfl (fun _ m' hle ρ w hs hok => ?_) ?_
  · have := verify_any (rowAd ρ 806) (some ⟨(ρ 47).1, (ρ 47).2 + 0 * 1, none⟩) (ρ 856).1 3 exR 40 0 [1, 5, 9] w (hs.rowR (hle.at rfl) (hok _ List.mem_cons_self) (Nat.le_refl _)) (RdRow.congr (hs.rdVar (x := 47) (ty := 3) (vs := [I 1, I 5, I 9]) (sz := 1) (hle.at rfl) 0 3 (by decide)) fun i hi => by match i, hi with | 0, _ => rfl | 1, _ => rfl | 2, _ => rfl) (by decide)
    rw [ex_ver] at this
    exact this
  refine GO.fin tfine rfl ?_ ?_
  · first | trivial | (simp [AllP, condB]; done) | (simp only [AllP]; and_intros <;> first | trivial | decide | omega) | (simp [AllP, condB]; intros; and_intros <;> first | assumption | omega) | (simp [AllP, condB]; intros; simp_all; done) | (simp [AllP, condB]; intros; simp_all; omega) | (simp [AllP, condB]; omega)
  exact G.ret (endK.ret rfl rfl)
end Go.Proofs.Ytpoalimbjeehkaa
/- Chapter 38: what counts, and what explains. -/
set_option linter.unusedVariables false
set_option linter.unusedSimpArgs false
set_option maxRecDepth 8000
set_option maxHeartbeats 2000000
namespace Go.Proofs.Ytpoalimbjeehkaa
open Go.Sx Go.RowKit
theorem eqI_self (a : List Int) : eqI a a = true := by
  unfold eqI
  simp
theorem exA_len (l : List Rc) (g t : Int) (h : l.length ≤ 8 ∨ 14 < l.length) : (exA l g t).1.length ≤ 64 := by
  unfold exA
  split
  · exact Nat.zero_le _
  · rename_i ha
    have hn := ask_len (l := l) (g := g) (t := t) (by simpa using ha)
    split
    · have := exS_len l g t (2 ^ l.length); simp only; omega
    · exact Nat.zero_le _
theorem GapCounts_any (A : Option Addr) (c : Nat) (l : List Rc) (g t : Int) (w : World) (hl : RdRow w A l.length 2 (elR l)) :
    Calls Try.prog 4 #[.slice A l.length c, .agg #[I g, I t]] w fun e w' => e = .returned (.bool true) ∧ Below w.heap.size w w' := by
  refine enterPlain tfine Try.func4 rfl 70 Try.ntmps4 [.c (.inp 1000 A l.length c), .agg [.k (I g), .k (I t)]] [⟨1000, A, 2, l.length, elR l⟩] rfl rfl ⟨hl, trivial⟩ ⟨.inl ⟨rfl, rfl, rfl⟩, ⟨trivial, trivial, trivial⟩, trivial⟩ ?_
  refine G.seqR tfine rfl trivial ?_
  refine G.seq ?_
  refine G.seqC tfine rfl trivial ?_
  refine GO.callPlain (v := .bool true) rfl rfl rfl rfl (fun args w => Try.call10 args w) (fun ρ w hs hok => awakeG_any w) ?_
  refine GO.fin tfine rfl trivial ?_
  refine G.cond_false rfl ?_
  refine G.skip ?_
  refine G.seq ?_
  refine G.seqC tfine rfl trivial ?_
  refine GO.callPlain (v := .bool (fewRc l)) rfl rfl rfl rfl (fun args w => Try.call11 args w) (fun ρ w hs hok => fewRc_any A c l w (hs.row (cap := c) rfl (hok _ List.mem_cons_self))) ?_
  refine GO.fin tfine rfl trivial ?_
  refine G.cond (b := !(fewRc l)) rfl (fun h => ?_) (fun h => ?_)
  · refine G.seqR tfine rfl trivial ?_
    exact G.ret (endK.ret rfl rfl)
  have hf : fewRc l = true := by simpa using h
  have h8 := fewRc_len hf
  have hm : l.length ≤ 1000000 := by
    simp only [fewRc, Bool.or_eq_true, decide_eq_true_eq, beq_iff_eq] at hf
    omega
  refine G.skip ?_
  refine G.seqDraw hmix [0, 1, 0, 4, 0, 16, 63, 127, 255, 255, 511, 2047] [(1, 800), (1, 850)] rfl rfl rfl ?_
  refine GD.more tfine 0 rfl rfl (by first | trivial | simp [AllP]) ?_
  refine GD.callAns [.c (.r l.length 2 (elR l))] [800] 1 rfl rfl rfl rfl rfl ⟨rfl, rfl, rfl, trivial⟩ rfl (fun args w => Try.call13 args w) (fun m1 hle ρ w hs hok => cloneRc_any A c l w (hs.row (cap := c) (hle.at rfl) (hok _ List.mem_cons_self)) hm) ?_
  refine GD.more tfine 2 rfl rfl (by first | trivial | simp [AllP]) ?_
  refine GD.call (v := .tuple #[I (cntR l g t).1, I (cntR l g t).2]) 6 rfl rfl rfl rfl rfl (fun args w => Try.call21 args w) (fun m1 hle ρ w hs hok => count_any _ _ l g t w (hs.rowR (hle.at rfl) (hok _ List.mem_cons_self) (Nat.le_refl _))) ?_
  refine GD.fin tfine 7 rfl rfl trivial ?_
  refine G.seqC tfine rfl (by first | trivial | simp [AllP]) ?_
  refine GO.callPlain (v := .tuple #[I (cntR l g t).1, I (cntR l g t).2]) rfl rfl rfl rfl (fun args w => Try.call22 args w) (fun ρ w hs hok => refCount_any A c l g t w (hs.row (cap := c) rfl (hok _ List.mem_cons_self))) ?_
  refine GO.fin tfine rfl trivial ?_
  refine G.seqDraw hmix [0, 1, 0, 4, 15, 31, 63, 63, 127, 511] [(1, 801), (1, 851)] rfl rfl rfl ?_
  refine GD.more tfine 0 rfl rfl (by first | trivial | simp [AllP]) ?_
  refine GD.callAns [.c (.r l.length 2 (elR l))] [801] 1 rfl rfl rfl rfl rfl ⟨rfl, rfl, rfl, trivial⟩ rfl (fun args w => Try.call13 args w) (fun m1 hle ρ w hs hok => cloneRc_any A c l w (hs.row (cap := c) (hle.at rfl) (hok _ List.mem_cons_self)) hm) ?_
  refine GD.more tfine 2 rfl rfl (by first | trivial | simp [AllP]) ?_
  refine GD.call (v := .tuple #[I (nearR l g).1, I (nearR l g).2]) 4 rfl rfl rfl rfl rfl (fun args w => Try.call23 args w) (fun m1 hle ρ w hs hok => nearest_any _ _ l g w (hs.rowR (hle.at rfl) (hok _ List.mem_cons_self) (Nat.le_refl _))) ?_
  refine GD.fin tfine 5 rfl rfl trivial ?_
  refine G.seqC tfine rfl (by first | trivial | simp [AllP]) ?_
  refine GO.callPlain (v := .tuple #[I (nearR l g).1, I (nearR l g).2]) rfl rfl rfl rfl (fun args w => Try.call24 args w) (fun ρ w hs hok => refNearest_any A c l g w (hs.row (cap := c) rfl (hok _ List.mem_cons_self))) ?_
  refine GO.fin tfine rfl trivial ?_
  refine G.seqR tfine rfl ?_ ?_
  · first | trivial | (simp [AllP, condB]; done) | (simp only [AllP]; and_intros <;> first | trivial | decide | omega) | (simp [AllP, condB]; intros; and_intros <;> first | assumption | omega) | (simp [AllP, condB]; intros; simp_all; done) | (simp [AllP, condB]; intros; simp_all; omega) | (simp [AllP, condB]; omega)
  refine G.ret (endK.ret rfl ?_)
  simp
theorem GapExplains_any (A : Option Addr) (c : Nat) (l : List Rc) (g t : Int) (B : Option Addr) (d : Nat) (cl : List Int) (w : World) (hl : RdRow w A l.length 2 (elR l)) (hb : RdRow w B cl.length 1 (elI cl)) :
    Calls Try.prog 3 #[.slice A l.length c, .agg #[I g, I t], .slice B cl.length d] w fun e w' => e = .returned (.bool true) ∧ Below w.heap.size w w' := by
  refine enterPlain tfine Try.func3 rfl 92 Try.ntmps3 [.c (.inp 1000 A l.length c), .agg [.k (I g), .k (I t)], .c (.inp 1001 B cl.length d)] [⟨1000, A, 2, l.length, elR l⟩, ⟨1001, B, 1, cl.length, elI cl⟩] rfl rfl ⟨hl, hb, trivial⟩ ⟨.inl ⟨rfl, rfl, rfl⟩, ⟨trivial, trivial, trivial⟩, .inr ⟨nx rfl, .inl ⟨rfl, rfl, rfl⟩⟩, trivial⟩ ?_
  refine G.seqR tfine rfl trivial ?_
  refine G.seq ?_
  refine G.seqC tfine rfl trivial ?_
  refine GO.callPlain (v := .bool true) rfl rfl rfl rfl (fun args w => Try.call10 args w) (fun ρ w hs hok => awakeG_any w) ?_
  refine GO.fin tfine rfl trivial ?_
  refine G.cond_false rfl ?_
  refine G.skip ?_
  refine G.seq ?_
  refine G.seqC tfine rfl trivial ?_
  refine GO.callPlain (v := .bool (fewRc l)) rfl rfl rfl rfl (fun args w => Try.call11 args w) (fun ρ w hs hok => fewRc_any A c l w (hs.row (cap := c) rfl (hok _ List.mem_cons_self))) ?_
  refine GO.fin tfine rfl ?_ ?_
  · first | trivial | (simp [AllP, condB]; done) | (simp only [AllP]; and_intros <;> first | trivial | decide | omega) | (simp [AllP, condB]; intros; and_intros <;> first | assumption | omega) | (simp [AllP, condB]; intros; simp_all; done) | (simp [AllP, condB]; intros; simp_all; omega) | (simp [AllP, condB]; omega)
  refine G.cond (b := !(fewRc l) || decide ((cl.length : Int) > 10)) rfl (fun h => ?_) (fun h => ?_)
  · refine G.seqR tfine rfl trivial ?_
    exact G.ret (endK.ret rfl rfl)
  obtain ⟨hf, hcl⟩ : fewRc l = true ∧ cl.length ≤ 10 := by
    simp only [Bool.or_eq_false_iff, Bool.not_eq_false', decide_eq_false_iff_not] at h
    exact ⟨h.1, by omega⟩
  have h8 := fewRc_len hf
  have hm : l.length ≤ 1000000 := by
    simp only [fewRc, Bool.or_eq_true, decide_eq_true_eq, beq_iff_eq] at hf
    omega
  refine G.skip ?_
  refine G.seqC tfine rfl trivial ?_
  refine GO.callAns [.c (.r l.length 2 (elR l))] [800] rfl rfl rfl rfl ⟨rfl, rfl, rfl, trivial⟩ (fun args w => Try.call13 args w) (fun ρ w hs hok => cloneRc_any A c l w (hs.row (cap := c) rfl (hok _ List.mem_cons_self)) hm) ?_
  refine GO.callPlain (v := .tuple #[I (chkR l).1, I (chkR l).2]) rfl rfl rfl rfl (fun args w => Try.call12 args w) (fun ρ w hs hok => checkRc_any _ _ l w (hs.rowR rfl (hok _ List.mem_cons_self) (Nat.le_refl _))) ?_
  refine GO.fin tfine rfl trivial ?_
  refine G.seqC tfine rfl (by first | trivial | simp [AllP]) ?_
  refine GO.callPlain (v := .tuple #[I (chkR l).1, I (chkR l).2]) rfl rfl rfl rfl (fun args w => Try.call14 args w) (fun ρ w hs hok => refCheckRc_any A c l w (hs.row (cap := c) rfl (hok _ List.mem_cons_self))) ?_
  refine GO.fin tfine rfl trivial ?_
  refine G.seqDraw hmix [0, 1, 0, 4, 0, 16, 63, 127, 255, 255, 511, 2047] [(1, 801), (1, 851), (6, 802), (6, 852)] rfl rfl rfl ?_
  refine GD.more tfine 0 rfl rfl (by first | trivial | simp [AllP]) ?_
  refine GD.callAns [.c (.r l.length 2 (elR l))] [801] 1 rfl rfl rfl rfl rfl ⟨rfl, rfl, rfl, trivial⟩ rfl (fun args w => Try.call13 args w) (fun m1 hle ρ w hs hok => cloneRc_any A c l w (hs.row (cap := c) (hle.at rfl) (hok _ List.mem_cons_self)) hm) ?_
  refine GD.more tfine 2 rfl rfl (by first | trivial | simp [AllP]) ?_
  refine GD.callAns [.c (.r (exA l g t).1.length 1 (elI (exA l g t).1)), .c (.p (I (exA l g t).2))] [802] 6 rfl rfl rfl rfl rfl ⟨rfl, rfl, rfl, trivial⟩ rfl (fun args w => Try.call15 args w) (fun m1 hle ρ w hs hok => explain_any _ _ l g t w (hs.rowR (hle.at rfl) (hok _ List.mem_cons_self) (Nat.le_refl _)) h8) ?_
  refine GD.fin tfine 7 rfl rfl trivial ?_
  refine G.seqC tfine rfl (by first | trivial | simp [AllP]) ?_
  refine GO.callAns [.c (.r (exA l g t).1.length 1 (elI (exA l g t).1)), .c (.p (I (exA l g t).2))] [803] rfl rfl rfl rfl ⟨rfl, rfl, rfl, trivial⟩ (fun args w => Try.call16 args w) (fun ρ w hs hok => refExplain_any A c l g t w (hs.row (cap := c) rfl (hok _ List.mem_cons_self))) ?_
  refine GO.fin tfine rfl trivial ?_
  have hex : (exA l g t).1.length ≤ 64 := exA_len l g t h8
  refine G.seqDraw hmix [0, 0, 3, 7, 15, 15, 63, 127, 255, 511, 511, 2047, 4095, 8191, 16383, 16383, 65535, 131071, 262143, 524287, 1048575, 524287, 2621439, 524287, 8912895, 524287, 35651583, 134217727, 524287, 524287, 537395199, 524287, 2148007935, 524287, 17179869183, 34359738367, 68719476735, 137438953471] [(20, 804), (20, 854), (26, 805), (26, 855)] rfl rfl rfl ?_
  refine GD.more tfine 0 rfl rfl ?_ ?_
  · first | trivial | (simp [AllP, condB]; done) | (simp only [AllP]; and_intros <;> first | trivial | decide | omega) | (simp [AllP, condB]; intros; and_intros <;> first | assumption | omega) | (simp [AllP, condB]; intros; simp_all; done) | (simp [AllP, condB]; intros; simp_all; omega) | (simp [AllP, condB]; omega)
  refine GD.callGuard (.bool (eqI (exA l g t).1 (exA l g t).1)) 11 rfl rfl rfl rfl (by first | exact trivial | exact ⟨id, trivial⟩ | exact ⟨id, id, trivial⟩ | exact ⟨id, id, id, trivial⟩ | exact ⟨id, id, id, id, trivial⟩) rfl rfl (fun args w => Try.call17 args w) rfl (fun _ m' hle ρ w hs hok => same_any (rowAd ρ 802) (rowAd ρ 803) (ρ 852).1 (ρ 853).1 (exA l g t).1 (exA l g t).1 w (hs.rowR (hle.at rfl) (hok _ List.mem_cons_self) (Nat.le_refl _)) (hs.rowR (hle.at rfl) (hok _ (List.mem_cons_of_mem _ List.mem_cons_self)) (Nat.le_refl _)) (by omega)) ?_
  refine GD.more tfine 12 rfl rfl ?_ ?_
  · first | trivial | (simp [AllP, condB]; done) | (simp only [AllP]; and_intros <;> first | trivial | decide | omega) | (simp [AllP, condB]; intros; and_intros <;> first | assumption | omega) | (simp [AllP, condB]; intros; simp_all; done) | (simp [AllP, condB]; intros; simp_all; omega) | (simp [AllP, condB]; omega)
  refine GD.callAnsT [.c (.r l.length 2 (elR l))] [804] 20 rfl (by simp [eqI_self, condB]) rfl rfl rfl (by first | exact trivial | exact ⟨id, trivial⟩ | exact ⟨id, id, trivial⟩ | exact ⟨id, id, id, trivial⟩ | exact ⟨id, id, id, id, trivial⟩) rfl rfl ⟨rfl, rfl, rfl, trivial⟩ rfl (fun args w => Try.call13 args w) rfl (fun m' hle ρ w hs hok => cloneRc_any A c l w (hs.row (cap := c) (hle.at rfl) (hok _ List.mem_cons_self)) hm) ?_
  refine GD.more tfine 21 rfl rfl ?_ ?_
  · first | trivial | (simp [AllP, condB]; done) | (simp only [AllP]; and_intros <;> first | trivial | decide | omega) | (simp [AllP, condB]; intros; and_intros <;> first | assumption | omega) | (simp [AllP, condB]; intros; simp_all; done) | (simp [AllP, condB]; intros; simp_all; omega) | (simp [AllP, condB]; omega)
  refine GD.callAnsT [.c (.r cl.length 1 (elI cl))] [805] 26 rfl (by simp [eqI_self, condB]) rfl rfl rfl (by first | exact trivial | exact ⟨id, trivial⟩ | exact ⟨id, id, trivial⟩ | exact ⟨id, id, id, trivial⟩ | exact ⟨id, id, id, id, trivial⟩) rfl rfl ⟨rfl, rfl, rfl, trivial⟩ rfl (fun args w => Try.call19 args w) rfl (fun m' hle ρ w hs hok => cloneIs_any B d cl w (hs.row (cap := d) (hle.at rfl) (hok _ List.mem_cons_self)) (by omega)) ?_
  refine GD.callGuard (I (verR l g t cl)) 27 rfl rfl rfl rfl (by first | exact trivial | exact ⟨id, trivial⟩ | exact ⟨id, id, trivial⟩ | exact ⟨id, id, id, trivial⟩ | exact ⟨id, id, id, id, trivial⟩) rfl rfl (fun args w => Try.call18 args w) rfl (fun _ m' hle ρ w hs hok => verify_any (rowAd ρ 804) (rowAd ρ 805) (ρ 854).1 (ρ 855).1 l g t cl w (hs.rowR (hle.at rfl) (hok _ List.mem_cons_self) (Nat.le_refl _)) (hs.rowR (hle.at rfl) (hok _ (List.mem_cons_of_mem _ (List.mem_cons_of_mem _ (List.mem_cons_of_mem _ List.mem_cons_self)))) (Nat.le_refl _)) (by omega)) ?_
  refine GD.more tfine 28 rfl rfl ?_ ?_
  · first | trivial | (simp [AllP, condB]; done) | (simp only [AllP]; and_intros <;> first | trivial | decide | omega) | (simp [AllP, condB]; intros; and_intros <;> first | assumption | omega) | (simp [AllP, condB]; intros; simp_all; done) | (simp [AllP, condB]; intros; simp_all; omega) | (simp [AllP, condB]; omega)
  refine GD.callGuard (I (verR l g t cl)) 34 rfl rfl rfl rfl (by first | exact trivial | exact ⟨id, trivial⟩ | exact ⟨id, id, trivial⟩ | exact ⟨id, id, id, trivial⟩ | exact ⟨id, id, id, id, trivial⟩) rfl rfl (fun args w => Try.call20 args w) rfl (fun _ m' hle ρ w hs hok => refVerify_any A B c d l g t cl w (hs.row (cap := c) (hle.at rfl) (hok _ List.mem_cons_self)) (hs.row (cap := d) (hle.at rfl) (hok _ (List.mem_cons_of_mem _ (List.mem_cons_of_mem _ (List.mem_cons_of_mem _ List.mem_cons_self))))) (by omega)) ?_
  refine GD.fin tfine 35 rfl rfl ?_ ?_
  · first | trivial | (simp [AllP, condB]; done) | (simp only [AllP]; and_intros <;> first | trivial | decide | omega) | (simp [AllP, condB]; intros; and_intros <;> first | assumption | omega) | (simp [AllP, condB]; intros; simp_all; done) | (simp [AllP, condB]; intros; simp_all; omega) | (simp [AllP, condB]; omega)
  refine G.ret (endK.ret rfl ?_)
  simp [eqI_self, condB]
end Go.Proofs.Ytpoalimbjeehkaa
/- Chapter 38: plain laws about sets, their sums, their numbers of records. -/
set_option linter.unusedVariables false
set_option linter.unusedSimpArgs false
namespace Go.Proofs.Ytpoalimbjeehkaa
open Go.Sx Go.RowKit
theorem exS_found (l : List Rc) (g t : Int) (k : Nat) : (exS l g t k).2 = decide (0 < cntH l g t k) := by
  induction k with
  | zero => rfl
  | succ k ih =>
    rw [exS, cntH]
    cases hh : hitW l g t k with
    | false => simpa using ih
    | true =>
      simp only [cond_true, Bool.true_and]
      split
      · simp
      · rename_i h
        simp only [Bool.or_eq_true, not_or, Bool.not_eq_true'] at h
        simpa using h.1
theorem cntH_pos (l : List Rc) (g t : Int) (k : Nat) : 0 < cntH l g t k ↔ ∃ s, s < k ∧ difW l g s ≤ t := by
  induction k with
  | zero => simp [cntH]
  | succ k ih =>
    rw [cntH]
    cases hh : hitW l g t k with
    | false =>
      simp only [cond_false, ih]
      have hd : ¬ difW l g k ≤ t := by simpa [hitW] using hh
      constructor
      · rintro ⟨s, h1, h2⟩; exact ⟨s, by omega, h2⟩
      · rintro ⟨s, h1, h2⟩
        refine ⟨s, ?_, h2⟩
        rcases Nat.lt_succ_iff_lt_or_eq.1 h1 with h3 | rfl
        · exact h3
        · exact absurd h2 hd
    | true =>
      simp only [cond_true]
      have hd : difW l g k ≤ t := by simpa [hitW] using hh
      exact ⟨fun _ => ⟨k, by omega, hd⟩, fun _ => by omega⟩
theorem minW_le (a b t : Int) : minW a b ≤ t ↔ a ≤ t ∨ b ≤ t := by
  unfold minW
  split <;> omega
theorem nearF_le (l : List Rc) (g t : Int) (k : Nat) : nearF l g k ≤ t ↔ absR g ≤ t ∨ ∃ s, s < k ∧ difW l g s ≤ t := by
  induction k with
  | zero => simp [nearF]
  | succ k ih =>
    rw [nearF, minW_le, ih]
    constructor
    · rintro ((h | ⟨s, h1, h2⟩) | h)
      · exact .inl h
      · exact .inr ⟨s, by omega, h2⟩
      · exact .inr ⟨k, by omega, h⟩
    · rintro (h | ⟨s, h1, h2⟩)
      · exact .inl (.inl h)
      · rcases Nat.lt_succ_iff_lt_or_eq.1 h1 with h3 | rfl
        · exact .inl (.inr ⟨s, h3, h2⟩)
        · exact .inr h2
theorem bad_amt {r : Rc} (h : badR r = false) : -1099511627776 ≤ r.2 ∧ r.2 ≤ 1099511627776 ∧ 1 ≤ r.1 := by
  simp only [badR, amtR, Bool.or_eq_false_iff, decide_eq_false_iff_not, Bool.not_eq_false', Bool.and_eq_true, decide_eq_true_eq] at h
  omega
theorem sumW_bd {l : List Rc} (h : rightR l = true) (hn : l.length ≤ 14) (s : Nat) : ∀ k, k ≤ l.length → -(1099511627776 * (k : Int)) ≤ sumW l s k ∧ sumW l s k ≤ 1099511627776 * (k : Int) := by
  intro k
  induction k with
  | zero => intro _; simp [sumW]
  | succ k ih =>
    intro hk
    have i := ih (by omega)
    have b := bad_amt (right_ok h k (by omega)).1
    rw [sumW]
    split
    · rw [IntWalk.i64_in _ (by omega)]; omega
    · omega
theorem absR_in {x : Int} (h1 : -9223372036854775808 < x) (h2 : x < 9223372036854775808) : absR x = if x < 0 then -x else x := by
  unfold absR
  rw [IntWalk.i64_in (0 - x) (by omega)]
  split <;> split <;> omega
theorem ask_g {l : List Rc} {g t : Int} (h : askR l g t = 0) : (-1099511627776 ≤ g ∧ g ≤ 1099511627776) ∧ 0 ≤ t ∧ t ≤ 1099511627776 := by
  rw [askR, ask_right h] at h
  simp only [Bool.not_true, Bool.false_eq_true, if_false] at h
  split at h
  · cases h
  · rename_i h1
    simp only [amtR, Bool.or_eq_true, not_or, decide_eq_true_eq, Bool.not_eq_true', Bool.and_eq_false_iff, decide_eq_false_iff_not] at h1
    omega
theorem ask_of {l : List Rc} {g t : Int} (h : rightR l = true) (h1 : -1099511627776 ≤ g ∧ g ≤ 1099511627776) (h2 : 0 ≤ t) (h3 : t ≤ 1099511627776) : askR l g t = 0 := by
  have ha : amtR g = true := by simp only [amtR, Bool.and_eq_true, decide_eq_true_eq]; omega
  rw [askR, h, ha]
  simp only [Bool.not_true, Bool.false_eq_true, if_false, Bool.false_or]
  rw [if_neg (by simp only [Bool.or_eq_true, decide_eq_true_eq]; omega)]
theorem ask_cases (l : List Rc) (g t : Int) : askR l g t = 0 ∨ askR l g t = 1 ∨ askR l g t = 2 := by
  unfold askR
  split
  · exact .inr (.inl rfl)
  · split
    · exact .inr (.inr rfl)
    · exact .inl rfl
theorem difW_in {l : List Rc} {g t : Int} (h : askR l g t = 0) (s : Nat) : difW l g s = if sumW l s l.length - g < 0 then -(sumW l s l.length - g) else sumW l s l.length - g := by
  have hn := ask_len h
  have b := sumW_bd (ask_right h) hn s l.length (Nat.le_refl _)
  have bg := ask_g h
  unfold difW
  rw [IntWalk.i64_in _ (by omega), absR_in (by omega) (by omega)]
theorem sumW_zero (l : List Rc) (k : Nat) : sumW l 0 k = 0 := by
  induction k with
  | zero => rfl
  | succ k ih => rw [sumW, ih]; simp
theorem difW_zero {l : List Rc} {g t : Int} (h : askR l g t = 0) : difW l g 0 = absR g := by
  have bg := ask_g h
  rw [difW_in h, sumW_zero, absR_in (by omega) (by omega)]
  split <;> split <;> omega
/-- A gap is explained with a tolerance exactly if the nearest sum is that near. -/
theorem found_near {l : List Rc} {g t0 t : Int} (h : askR l g t0 = 0) : (exS l g t (2 ^ l.length)).2 = decide (nearF l g (2 ^ l.length) ≤ t) := by
  rw [exS_found]
  refine decide_eq_decide.2 ?_
  rw [cntH_pos, nearF_le]
  constructor
  · exact fun h => .inr h
  · rintro (h1 | h1)
    · exact ⟨0, Nat.two_pow_pos _, by rw [difW_zero h]; exact h1⟩
    · exact h1
theorem nearF_nonneg {l : List Rc} {g t : Int} (h : askR l g t = 0) : 0 ≤ nearF l g (2 ^ l.length) ∧ nearF l g (2 ^ l.length) ≤ absR g := by
  refine ⟨?_, (nearF_le l g (absR g) _).2 (.inl (Int.le_refl _))⟩
  refine Int.not_lt.1 fun hc => ?_
  rcases (nearF_le l g (-1) (2 ^ l.length)).1 (by omega) with h1 | ⟨s, _, h1⟩
  · have bg := ask_g h
    rw [absR_in (by omega) (by omega)] at h1
    split at h1 <;> omega
  · rw [difW_in h] at h1
    split at h1 <;> omega
theorem exA_err {l : List Rc} {g t : Int} (h : askR l g t ≠ 0) : exA l g t = ([], askR l g t) := by
  rw [exA, if_pos (by simpa using h)]
theorem exA_ok {l : List Rc} {g t : Int} (h : askR l g t = 0) : exA l g t = if nearF l g (2 ^ l.length) ≤ t then ((exS l g t (2 ^ l.length)).1, 0) else ([], 20) := by
  rw [exA, if_neg (by simp [h]), found_near h]
  simp only [decide_eq_true_eq]
theorem cntR_err {l : List Rc} {g t : Int} (h : askR l g t ≠ 0) : cntR l g t = (0, askR l g t) := by
  rw [cntR, if_pos (by simpa using h)]
theorem cntR_ok {l : List Rc} {g t : Int} (h : askR l g t = 0) : cntR l g t = (((cntH l g t (2 ^ l.length) : Nat) : Int), 0) := by
  rw [cntR, if_neg (by simp [h])]
theorem cnt_near {l : List Rc} {g t0 t : Int} (h : askR l g t0 = 0) : 0 < cntH l g t (2 ^ l.length) ↔ nearF l g (2 ^ l.length) ≤ t := by
  have := found_near (t := t) h
  rw [exS_found] at this
  exact decide_eq_decide.1 this
theorem nearR_ok {l : List Rc} {g t : Int} (h : askR l g t = 0) : nearR l g = (nearF l g (2 ^ l.length), 0) := by
  have bg := ask_g h
  have h0 : askR l g 0 = 0 := ask_of (ask_right h) bg.1 (by omega) (by omega)
  rw [nearR, if_neg (by simp [h0])]
/-! ### The fewest records -/
theorem exS_mem (l : List Rc) (g t : Int) (k : Nat) (h : (exS l g t k).2 = true) : ∃ s, s < k ∧ hitW l g t s = true ∧ (exS l g t k).1 = idsW l s l.length := by
  induction k with
  | zero => cases h
  | succ k ih =>
    rw [exS] at h ⊢
    by_cases hc : (hitW l g t k && (!(exS l g t k).2 || befI (idsW l k l.length) (exS l g t k).1)) = true
    · rw [if_pos hc]
      exact ⟨k, by omega, by rw [Bool.and_eq_true] at hc; exact hc.1, rfl⟩
    · rw [if_neg hc] at h ⊢
      obtain ⟨s, h1, h2, h3⟩ := ih h
      exact ⟨s, by omega, h2, h3⟩
theorem exS_min (l : List Rc) (g t : Int) (k s : Nat) (hs : s < k) (h : hitW l g t s = true) : (exS l g t k).2 = true ∧ (exS l g t k).1.length ≤ (idsW l s l.length).length := by
  induction k with
  | zero => omega
  | succ k ih =>
    rw [exS]
    by_cases hc : (hitW l g t k && (!(exS l g t k).2 || befI (idsW l k l.length) (exS l g t k).1)) = true
    · rw [if_pos hc]
      refine ⟨rfl, ?_⟩
      rcases Nat.lt_succ_iff_lt_or_eq.1 hs with h3 | rfl
      · obtain ⟨h4, h5⟩ := ih h3
        rw [Bool.and_eq_true, h4] at hc
        have hb : befI (idsW l k l.length) (exS l g t k).1 = true := by simpa using hc.2
        have : (idsW l k l.length).length ≤ (exS l g t k).1.length := by
          unfold befI at hb
          split at hb
          · simp only [decide_eq_true_eq] at hb; omega
          · rename_i h6; simp only [bne_iff_ne, ne_eq, Decidable.not_not] at h6; omega
        simp only
        omega
      · exact Nat.le_refl _
    · rw [if_neg hc]
      rcases Nat.lt_succ_iff_lt_or_eq.1 hs with h3 | rfl
      · exact ih h3
      · rw [h, Bool.true_and] at hc
        simp only [Bool.or_eq_true, Bool.not_eq_true', not_or, Bool.not_eq_false] at hc
        refine ⟨hc.1, ?_⟩
        have hb := hc.2
        unfold befI at hb
        split at hb
        · rename_i h6; simp only [decide_eq_true_eq] at hb; omega
        · rename_i h6; simp only [bne_iff_ne, ne_eq, Decidable.not_not] at h6; omega
theorem hitW_mono {l : List Rc} {g t t' : Int} (h : t ≤ t') (s : Nat) (hh : hitW l g t s = true) : hitW l g t' s = true := by
  simp only [hitW, decide_eq_true_eq] at *
  omega
theorem cntH_mono {l : List Rc} {g t t' : Int} (h : t ≤ t') (k : Nat) : cntH l g t k ≤ cntH l g t' k := by
  induction k with
  | zero => exact Nat.le_refl _
  | succ k ih =>
    rw [cntH, cntH]
    cases h1 : hitW l g t k with
    | true => rw [hitW_mono h k h1]; simp only [cond_true]; omega
    | false =>
      cases hitW l g t' k <;> simp only [cond_true, cond_false] <;> omega
theorem exS_wider {l : List Rc} {g t t' : Int} (h : t ≤ t') (k : Nat) (h1 : (exS l g t k).2 = true) : (exS l g t' k).2 = true ∧ (exS l g t' k).1.length ≤ (exS l g t k).1.length := by
  obtain ⟨s, h2, h3, h4⟩ := exS_mem l g t k h1
  rw [h4]
  exact exS_min l g t' k s h2 (hitW_mono h s h3)
end Go.Proofs.Ytpoalimbjeehkaa
/- Chapter 38: near, and wider. -/
set_option linter.unusedVariables false
set_option linter.unusedSimpArgs false
set_option maxRecDepth 8000
set_option maxHeartbeats 2000000
namespace Go.Proofs.Ytpoalimbjeehkaa
open Go.Sx Go.RowKit
theorem GapNear_any (A : Option Addr) (c : Nat) (l : List Rc) (g t : Int) (w : World) (hl : RdRow w A l.length 2 (elR l)) :
    Calls Try.prog 5 #[.slice A l.length c, .agg #[I g, I t]] w fun e w' => e = .returned (.bool true) ∧ Below w.heap.size w w' := by
  refine enterPlain tfine Try.func5 rfl 129 Try.ntmps5 [.c (.inp 1000 A l.length c), .agg [.k (I g), .k (I t)]] [⟨1000, A, 2, l.length, elR l⟩] rfl rfl ⟨hl, trivial⟩ ⟨.inl ⟨rfl, rfl, rfl⟩, ⟨trivial, trivial, trivial⟩, trivial⟩ ?_
  refine G.seqR tfine rfl trivial ?_
  refine G.seq ?_
  refine G.seqC tfine rfl trivial ?_
  refine GO.callPlain (v := .bool true) rfl rfl rfl rfl (fun args w => Try.call10 args w) (fun ρ w hs hok => awakeG_any w) ?_
  refine GO.fin tfine rfl trivial ?_
  refine G.cond_false rfl ?_
  refine G.skip ?_
  refine G.seq ?_
  refine G.seqR tfine rfl trivial ?_
  refine G.cond (b := decide ((l.length : Int) > 8)) rfl (fun h => ?_) (fun h => ?_)
  · refine G.seqR tfine rfl trivial ?_
    exact G.ret (endK.ret rfl rfl)
  have hl8 : l.length ≤ 8 := by have := of_decide_eq_false h; omega
  have h8 : l.length ≤ 8 ∨ 14 < l.length := .inl hl8
  have hm : l.length ≤ 1000000 := by omega
  refine G.skip ?_
  refine G.seqDraw hmix [0, 1, 0, 4, 0, 16, 63, 127, 255, 255, 511, 2047] [(1, 800), (1, 850), (6, 801), (6, 851)] rfl rfl rfl ?_
  refine GD.more tfine 0 rfl rfl (by first | trivial | simp [AllP]) ?_
  refine GD.callAns [.c (.r l.length 2 (elR l))] [800] 1 rfl rfl rfl rfl rfl ⟨rfl, rfl, rfl, trivial⟩ rfl (fun args w => Try.call13 args w) (fun m1 hle ρ w hs hok => cloneRc_any A c l w (hs.row (cap := c) (hle.at rfl) (hok _ List.mem_cons_self)) hm) ?_
  refine GD.more tfine 2 rfl rfl (by first | trivial | simp [AllP]) ?_
  refine GD.callAns [.c (.r (exA l g t).1.length 1 (elI (exA l g t).1)), .c (.p (I (exA l g t).2))] [801] 6 rfl rfl rfl rfl rfl ⟨rfl, rfl, rfl, trivial⟩ rfl (fun args w => Try.call15 args w) (fun m1 hle ρ w hs hok => explain_any _ _ l g t w (hs.rowR (hle.at rfl) (hok _ List.mem_cons_self) (Nat.le_refl _)) h8) ?_
  refine GD.fin tfine 7 rfl rfl trivial ?_
  refine G.seqDraw hmix [0, 1, 0, 4, 15, 31, 63, 63, 127, 511] [(1, 802), (1, 852)] rfl rfl rfl ?_
  refine GD.more tfine 0 rfl rfl (by first | trivial | simp [AllP]) ?_
  refine GD.callAns [.c (.r l.length 2 (elR l))] [802] 1 rfl rfl rfl rfl rfl ⟨rfl, rfl, rfl, trivial⟩ rfl (fun args w => Try.call13 args w) (fun m1 hle ρ w hs hok => cloneRc_any A c l w (hs.row (cap := c) (hle.at rfl) (hok _ List.mem_cons_self)) hm) ?_
  refine GD.more tfine 2 rfl rfl (by first | trivial | simp [AllP]) ?_
  refine GD.call (v := .tuple #[I (nearR l g).1, I (nearR l g).2]) 4 rfl rfl rfl rfl rfl (fun args w => Try.call23 args w) (fun m1 hle ρ w hs hok => nearest_any _ _ l g w (hs.rowR (hle.at rfl) (hok _ List.mem_cons_self) (Nat.le_refl _))) ?_
  refine GD.fin tfine 5 rfl rfl trivial ?_
  refine G.seqDraw hmix [0, 1, 0, 4, 0, 16, 63, 127, 255, 255, 511, 2047] [(1, 803), (1, 853)] rfl rfl rfl ?_
  refine GD.more tfine 0 rfl rfl (by first | trivial | simp [AllP]) ?_
  refine GD.callAns [.c (.r l.length 2 (elR l))] [803] 1 rfl rfl rfl rfl rfl ⟨rfl, rfl, rfl, trivial⟩ rfl (fun args w => Try.call13 args w) (fun m1 hle ρ w hs hok => cloneRc_any A c l w (hs.row (cap := c) (hle.at rfl) (hok _ List.mem_cons_self)) hm) ?_
  refine GD.more tfine 2 rfl rfl (by first | trivial | simp [AllP]) ?_
  refine GD.call (v := .tuple #[I (cntR l g t).1, I (cntR l g t).2]) 6 rfl rfl rfl rfl rfl (fun args w => Try.call21 args w) (fun m1 hle ρ w hs hok => count_any _ _ l g t w (hs.rowR (hle.at rfl) (hok _ List.mem_cons_self) (Nat.le_refl _))) ?_
  refine GD.fin tfine 7 rfl rfl trivial ?_
  refine G.seq ?_
  refine G.seqR tfine rfl ?_ ?_
  · first | trivial | (simp [AllP, condB]; done) | (simp only [AllP]; and_intros <;> first | trivial | decide | omega) | (simp [AllP, condB]; intros; and_intros <;> first | assumption | omega) | (simp [AllP, condB]; intros; simp_all; done) | (simp [AllP, condB]; intros; simp_all; omega) | (simp [AllP, condB]; omega)
  refine G.cond (b := (exA l g t).2 != 0 && (exA l g t).2 != 20) rfl (fun h2 => ?_) (fun h2 => ?_)
  · have ha : askR l g t ≠ 0 := by
      intro hc
      rw [exA_ok hc] at h2
      split at h2 <;> simp at h2
    refine G.seqR tfine rfl ?_ ?_
    · first | trivial | (simp [AllP, condB]; done) | (simp only [AllP]; and_intros <;> first | trivial | decide | omega) | (simp [AllP, condB]; intros; and_intros <;> first | assumption | omega) | (simp [AllP, condB]; intros; simp_all; done) | (simp [AllP, condB]; intros; simp_all; omega) | (simp [AllP, condB]; omega)
    refine G.ret (endK.ret rfl ?_)
    rw [exA_err ha, cntR_err ha]
    simp
  have ha : askR l g t = 0 := by
    refine Decidable.byContradiction fun hc => ?_
    rw [exA_err hc] at h2
    rcases ask_cases l g t with h3 | h3 | h3
    · exact hc h3
    · rw [h3] at h2; simp at h2
    · rw [h3] at h2; simp at h2
  have bg := ask_g ha
  have hr := ask_right ha
  have nn := nearF_nonneg ha
  have e1 : (nearR l g).1 = nearF l g (2 ^ l.length) := by rw [nearR_ok ha]
  have e2 : (nearR l g).2 = 0 := by rw [nearR_ok ha]
  have e3 : (cntR l g t).1 = ((cntH l g t (2 ^ l.length) : Nat) : Int) := by rw [cntR_ok ha]
  have e4 : (cntR l g t).2 = 0 := by rw [cntR_ok ha]
  have e5 : ((exA l g t).2 == 0) = decide (nearF l g (2 ^ l.length) ≤ t) := by
    rw [exA_ok ha]
    split
    · rename_i h3; simp [h3]
    · rename_i h3; simp [h3]
  have e6 := cnt_near (t := t) ha
  have e7 : absR g = if g < 0 then -g else g := absR_in (by omega) (by omega)
  obtain ⟨nr, hnr⟩ : ∃ nr, nr = (nearR l g).1 := ⟨_, rfl⟩
  refine G.skip ?_
  refine G.seq ?_
  refine G.seqR tfine rfl ?_ ?_
  · simp [AllP, condB]
  refine G.cond rfl (fun h3 => ?_) (fun h3 => ?_)
  · exfalso
    rw [IntWalk.i64_in _ (by omega)] at h3
    simp only [e1, e2, e3, e4, e5] at h3
    have e8 : decide (((cntH l g t (2 ^ l.length) : Nat) : Int) > 0) = decide (nearF l g (2 ^ l.length) ≤ t) := decide_eq_decide.2 (by rw [← e6]; omega)
    rw [e8] at h3
    simp only [bne_self_eq_false, Bool.or_false, Bool.false_or, Bool.or_eq_true, decide_eq_true_eq, Bool.false_eq_true, or_false, false_or] at h3
    rw [e7] at nn
    rcases h3 with h3 | h3
    · omega
    · split at h3 <;> split at nn <;> omega
  refine G.skip ?_
  refine G.seq ?_
  refine G.seqR tfine rfl trivial ?_
  refine G.cond (b := decide ((nearR l g).1 > 1099511627776)) rfl (fun h4 => ?_) (fun h4 => ?_)
  · refine G.seqR tfine rfl trivial ?_
    exact G.ret (endK.ret rfl rfl)
  have h4 := of_decide_eq_false h4
  rw [e1] at h4
  have ea : (exA l g (nearR l g).1).2 = 0 := by
    rw [e1, exA_ok (ask_of hr bg.1 (by omega) (by omega)), if_pos (Int.le_refl _)]
  refine G.skip ?_
  refine G.seqDraw hmix [0, 1, 0, 4, 0, 31, 63, 127, 127, 255, 1023] [(1, 804), (1, 854), (5, 805), (5, 855)] rfl rfl rfl ?_
  refine GD.more tfine 0 rfl rfl (by first | trivial | simp [AllP]) ?_
  refine GD.callAns [.c (.r l.length 2 (elR l))] [804] 1 rfl rfl rfl rfl rfl ⟨rfl, rfl, rfl, trivial⟩ rfl (fun args w => Try.call13 args w) (fun m1 hle ρ w hs hok => cloneRc_any A c l w (hs.row (cap := c) (hle.at rfl) (hok _ List.mem_cons_self)) hm) ?_
  refine GD.more tfine 2 rfl rfl (by first | trivial | simp [AllP]) ?_
  refine GD.callAns [.c (.r (exA l g (nearR l g).1).1.length 1 (elI (exA l g (nearR l g).1).1)), .c (.p (I (exA l g (nearR l g).1).2))] [805] 5 rfl rfl rfl rfl rfl ⟨rfl, rfl, rfl, trivial⟩ rfl (fun args w => Try.call15 args w) (fun m1 hle ρ w hs hok => explain_any _ _ l g (nearR l g).1 w (hs.rowR (hle.at rfl) (hok _ List.mem_cons_self) (Nat.le_refl _)) h8) ?_
  refine GD.fin tfine 6 rfl rfl trivial ?_
  refine G.seq ?_
  refine G.seqR tfine rfl trivial ?_
  refine G.cond (b := decide ((nearR l g).1 > 0)) rfl (fun h5 => ?_) (fun h5 => ?_)
  · have h5 := of_decide_eq_true h5
    have eb : (exA l g ((nearR l g).1 - 1)).2 = 20 := by
      rw [e1] at h5 ⊢
      rw [exA_ok (ask_of hr bg.1 (by omega) (by omega)), if_neg (by omega)]
    refine G.seqDraw hmix [0, 1, 0, 4, 0, 16, 63, 127, 255, 255, 511, 2047] [(1, 806), (1, 856), (6, 807), (6, 857)] rfl rfl rfl ?_
    refine GD.more tfine 0 rfl rfl (by first | trivial | simp [AllP]) ?_
    refine GD.callAns [.c (.r l.length 2 (elR l))] [806] 1 rfl rfl rfl rfl rfl ⟨rfl, rfl, rfl, trivial⟩ rfl (fun args w => Try.call13 args w) (fun m1 hle ρ w hs hok => cloneRc_any A c l w (hs.row (cap := c) (hle.at rfl) (hok _ List.mem_cons_self)) hm) ?_
    refine GD.more tfine 2 rfl rfl (by first | trivial | simp [AllP]) ?_
    rw [IntWalk.i64_in ((nearR l g).1 - 1) (by rw [e1]; omega)]
    refine GD.callAns [.c (.r (exA l g ((nearR l g).1 - 1)).1.length 1 (elI (exA l g ((nearR l g).1 - 1)).1)), .c (.p (I (exA l g ((nearR l g).1 - 1)).2))] [807] 6 rfl rfl rfl rfl rfl ⟨rfl, rfl, rfl, trivial⟩ rfl (fun args w => Try.call15 args w) (fun m1 hle ρ w hs hok => explain_any _ _ l g ((nearR l g).1 - 1) w (hs.rowR (hle.at rfl) (hok _ List.mem_cons_self) (Nat.le_refl _)) h8) ?_
    refine GD.fin tfine 7 rfl rfl trivial ?_
    refine G.seqR tfine rfl trivial ?_
    refine G.cond (b := (exA l g ((nearR l g).1 - 1)).2 != 20) rfl (fun h6 => ?_) (fun h6 => ?_)
    · rw [eb] at h6; cases h6
    refine G.skip ?_
    refine G.seqR tfine rfl trivial ?_
    refine G.ret (endK.ret rfl ?_)
    rw [ea]
    rfl
  refine G.skip ?_
  refine G.seqR tfine rfl trivial ?_
  refine G.ret (endK.ret rfl ?_)
  rw [ea]
  rfl
end Go.Proofs.Ytpoalimbjeehkaa
/- Chapter 38: wider tolerances. -/
set_option linter.unusedVariables false
set_option linter.unusedSimpArgs false
set_option maxRecDepth 8000
set_option maxHeartbeats 2000000
namespace Go.Proofs.Ytpoalimbjeehkaa
open Go.Sx Go.RowKit
theorem GapWider_any (A : Option Addr) (c : Nat) (l : List Rc) (g t : Int) (m : Int) (hm0 : 0 ≤ m) (hm1 : m < 4294967296) (w : World) (hl : RdRow w A l.length 2 (elR l)) :
    Calls Try.prog 6 #[.slice A l.length c, .agg #[I g, I t], .int .u32 m] w fun e w' => e = .returned (.bool true) ∧ Below w.heap.size w w' := by
  refine enterPlain tfine Try.func6 rfl 100 Try.ntmps6 [.c (.inp 1000 A l.length c), .agg [.k (I g), .k (I t)], .c (.k (.int .u32 m))] [⟨1000, A, 2, l.length, elR l⟩] rfl rfl ⟨hl, trivial⟩ ⟨.inl ⟨rfl, rfl, rfl⟩, ⟨trivial, trivial, trivial⟩, trivial, trivial⟩ ?_
  refine G.seqR tfine rfl trivial ?_
  refine G.seq ?_
  refine G.seqC tfine rfl trivial ?_
  refine GO.callPlain (v := .bool true) rfl rfl rfl rfl (fun args w => Try.call10 args w) (fun ρ w hs hok => awakeG_any w) ?_
  refine GO.fin tfine rfl trivial ?_
  refine G.cond_false rfl ?_
  refine G.skip ?_
  refine G.seq ?_
  refine G.seqR tfine rfl trivial ?_
  refine G.cond (b := decide ((l.length : Int) > 8)) rfl (fun h => ?_) (fun h => ?_)
  · refine G.seqR tfine rfl trivial ?_
    exact G.ret (endK.ret rfl rfl)
  have hl8 : l.length ≤ 8 := by have := of_decide_eq_false h; omega
  have h8 : l.length ≤ 8 ∨ 14 < l.length := .inl hl8
  have hm : l.length ≤ 1000000 := by omega
  refine G.skip ?_
  refine G.seqDraw hmix [0, 1, 0, 4, 0, 16, 63, 127, 255, 255, 511, 2047] [(1, 800), (1, 850)] rfl rfl rfl ?_
  refine GD.more tfine 0 rfl rfl (by first | trivial | simp [AllP]) ?_
  refine GD.callAns [.c (.r l.length 2 (elR l))] [800] 1 rfl rfl rfl rfl rfl ⟨rfl, rfl, rfl, trivial⟩ rfl (fun args w => Try.call13 args w) (fun m1 hle ρ w hs hok => cloneRc_any A c l w (hs.row (cap := c) (hle.at rfl) (hok _ List.mem_cons_self)) hm) ?_
  refine GD.more tfine 2 rfl rfl (by first | trivial | simp [AllP]) ?_
  refine GD.call (v := .tuple #[I (cntR l g t).1, I (cntR l g t).2]) 6 rfl rfl rfl rfl rfl (fun args w => Try.call21 args w) (fun m1 hle ρ w hs hok => count_any _ _ l g t w (hs.rowR (hle.at rfl) (hok _ List.mem_cons_self) (Nat.le_refl _))) ?_
  refine GD.fin tfine 7 rfl rfl trivial ?_
  refine G.seq ?_
  refine G.seqR tfine rfl trivial ?_
  refine G.cond (b := (cntR l g t).2 != 0) rfl (fun h2 => ?_) (fun h2 => ?_)
  · have ha : askR l g t ≠ 0 := by
      intro hc
      rw [cntR_ok hc] at h2
      simp at h2
    refine G.seqR tfine rfl trivial ?_
    refine G.ret (endK.ret rfl ?_)
    rw [cntR_err ha]
    simp
  have ha : askR l g t = 0 := by
    refine Decidable.byContradiction fun hc => ?_
    rw [cntR_err hc] at h2
    exact hc (by simpa using h2)
  have bg := ask_g ha
  have hr := ask_right ha
  refine G.skip ?_
  refine G.seqR tfine rfl (by first | trivial | simp [AllP]) ?_
  have ew : ∃ wd : Int, (if (1099511627776 : Int) < IntKind.i64.wrap (t + IntKind.i64.wrap m) then (1099511627776 : Int) else IntKind.i64.wrap (t + IntKind.i64.wrap m)) = wd ∧ t ≤ wd ∧ wd ≤ 1099511627776 := by
    refine ⟨_, rfl, ?_⟩
    rw [IntWalk.i64_in m (by omega), IntWalk.i64_in (t + m) (by omega)]
    split <;> omega
  obtain ⟨wd, ew, w1, w2⟩ := ew
  rw [ew]
  have hw : askR l g wd = 0 := ask_of hr bg.1 (by omega) (by omega)
  refine G.seqDraw hmix [0, 1, 0, 4, 0, 31, 63, 127, 127, 255, 1023] [(1, 801), (1, 851)] rfl rfl rfl ?_
  refine GD.more tfine 0 rfl rfl (by first | trivial | simp [AllP]) ?_
  refine GD.callAns [.c (.r l.length 2 (elR l))] [801] 1 rfl rfl rfl rfl rfl ⟨rfl, rfl, rfl, trivial⟩ rfl (fun args w => Try.call13 args w) (fun m1 hle ρ w hs hok => cloneRc_any A c l w (hs.row (cap := c) (hle.at rfl) (hok _ List.mem_cons_self)) hm) ?_
  refine GD.more tfine 2 rfl rfl (by first | trivial | simp [AllP]) ?_
  refine GD.call (v := .tuple #[I (cntR l g wd).1, I (cntR l g wd).2]) 5 rfl rfl rfl rfl rfl (fun args w => Try.call21 args w) (fun m1 hle ρ w hs hok => count_any _ _ l g wd w (hs.rowR (hle.at rfl) (hok _ List.mem_cons_self) (Nat.le_refl _))) ?_
  refine GD.fin tfine 6 rfl rfl trivial ?_
  refine G.seqDraw hmix [0, 1, 0, 4, 0, 16, 63, 127, 255, 255, 511, 2047] [(1, 802), (1, 852), (6, 803), (6, 853)] rfl rfl rfl ?_
  refine GD.more tfine 0 rfl rfl (by first | trivial | simp [AllP]) ?_
  refine GD.callAns [.c (.r l.length 2 (elR l))] [802] 1 rfl rfl rfl rfl rfl ⟨rfl, rfl, rfl, trivial⟩ rfl (fun args w => Try.call13 args w) (fun m1 hle ρ w hs hok => cloneRc_any A c l w (hs.row (cap := c) (hle.at rfl) (hok _ List.mem_cons_self)) hm) ?_
  refine GD.more tfine 2 rfl rfl (by first | trivial | simp [AllP]) ?_
  refine GD.callAns [.c (.r (exA l g t).1.length 1 (elI (exA l g t).1)), .c (.p (I (exA l g t).2))] [803] 6 rfl rfl rfl rfl rfl ⟨rfl, rfl, rfl, trivial⟩ rfl (fun args w => Try.call15 args w) (fun m1 hle ρ w hs hok => explain_any _ _ l g t w (hs.rowR (hle.at rfl) (hok _ List.mem_cons_self) (Nat.le_refl _)) h8) ?_
  refine GD.fin tfine 7 rfl rfl trivial ?_
  refine G.seqDraw hmix [0, 1, 0, 4, 0, 31, 63, 127, 127, 255, 1023] [(1, 804), (1, 854), (5, 805), (5, 855)] rfl rfl rfl ?_
  refine GD.more tfine 0 rfl rfl (by first | trivial | simp [AllP]) ?_
  refine GD.callAns [.c (.r l.length 2 (elR l))] [804] 1 rfl rfl rfl rfl rfl ⟨rfl, rfl, rfl, trivial⟩ rfl (fun args w => Try.call13 args w) (fun m1 hle ρ w hs hok => cloneRc_any A c l w (hs.row (cap := c) (hle.at rfl) (hok _ List.mem_cons_self)) hm) ?_
  refine GD.more tfine 2 rfl rfl (by first | trivial | simp [AllP]) ?_
  refine GD.callAns [.c (.r (exA l g wd).1.length 1 (elI (exA l g wd).1)), .c (.p (I (exA l g wd).2))] [805] 5 rfl rfl rfl rfl rfl ⟨rfl, rfl, rfl, trivial⟩ rfl (fun args w => Try.call15 args w) (fun m1 hle ρ w hs hok => explain_any _ _ l g wd w (hs.rowR (hle.at rfl) (hok _ List.mem_cons_self) (Nat.le_refl _)) h8) ?_
  refine GD.fin tfine 6 rfl rfl trivial ?_
  refine G.seq ?_
  refine G.seqR tfine rfl ?_ ?_
  · simp [AllP, condB]
  have e1 : (cntR l g wd).2 = 0 := by rw [cntR_ok hw]
  have e2 : (cntR l g wd).1 = ((cntH l g wd (2 ^ l.length) : Nat) : Int) := by rw [cntR_ok hw]
  have e3 : (cntR l g t).1 = ((cntH l g t (2 ^ l.length) : Nat) : Int) := by rw [cntR_ok ha]
  have m1 := cntH_mono (l := l) (g := g) w1 (2 ^ l.length)
  have m2 := cntH_le l g wd (2 ^ l.length)
  refine G.cond rfl (fun h3 => ?_) (fun h3 => ?_)
  · exfalso
    rw [shl1 _ (by omega)] at h3
    simp only [e1, e2, e3, bne_self_eq_false, Bool.false_or, Bool.or_eq_true, decide_eq_true_eq] at h3
    generalize 2 ^ l.length = p at *
    omega
  refine G.skip ?_
  refine G.seqR tfine rfl ?_ ?_
  · first | trivial | (simp [AllP, condB]; done) | (simp only [AllP]; and_intros <;> first | trivial | decide | omega) | (simp [AllP, condB]; intros; and_intros <;> first | assumption | omega) | (simp [AllP, condB]; intros; simp_all; done) | (simp [AllP, condB]; intros; simp_all; omega) | (simp [AllP, condB]; omega)
  refine G.ret (endK.ret rfl ?_)
  rw [exA_ok ha, exA_ok hw]
  by_cases hn : nearF l g (2 ^ l.length) ≤ t
  · rw [if_pos hn, if_pos (by omega)]
    have hf := found_near (t := t) ha
    have := exS_wider (l := l) (g := g) w1 (2 ^ l.length) (hf.trans (by simpa using hn))
    simp [this.2]
  · rw [if_neg hn]
    rfl
end Go.Proofs.Ytpoalimbjeehkaa
/- Chapter 38: records with all signs changed; plain laws, and a copy of our own. -/
set_option linter.unusedVariables false
set_option linter.unusedSimpArgs false
set_option maxRecDepth 8000
set_option maxHeartbeats 1000000
namespace Go.Proofs.Ytpoalimbjeehkaa
open Go.Sx Go.RowKit
def negR (r : Rc) : Rc := (r.1, IntKind.i64.wrap (0 - r.2))
def mirL (l : List Rc) : List Rc := l.map negR
theorem mirL_len (l : List Rc) : (mirL l).length = l.length := by simp [mirL]
theorem mirL_get (l : List Rc) (k : Nat) : (mirL l).getD k (0, 0) = negR (l.getD k (0, 0)) := by
  simp only [mirL, List.getD_eq_getElem?_getD, List.getElem?_map]
  cases l[k]? with
  | none => rfl
  | some r => rfl
/-- All amounts can be turned round. -/
def turnOk (l : List Rc) : Prop := ∀ i, -1099511627776 ≤ (l.getD i (0, 0)).2 ∧ (l.getD i (0, 0)).2 ≤ 9223372036854775807
theorem neg_in {x : Int} (h1 : -1099511627776 ≤ x) (h2 : x ≤ 9223372036854775807) : IntKind.i64.wrap (0 - x) = -x := by
  rw [IntWalk.i64_in _ (by omega)]; omega
theorem amtR_neg {x : Int} (h1 : -1099511627776 ≤ x) (h2 : x ≤ 9223372036854775807) : amtR (IntKind.i64.wrap (0 - x)) = amtR x := by
  rw [neg_in h1 h2, Bool.eq_iff_iff]
  simp only [amtR, Bool.and_eq_true, decide_eq_true_eq]
  omega
theorem badR_neg {r : Rc} (h1 : -1099511627776 ≤ r.2) (h2 : r.2 ≤ 9223372036854775807) : badR (negR r) = badR r := by
  unfold badR negR
  simp only
  rw [amtR_neg h1 h2]
theorem chkF_mir {l : List Rc} (h : turnOk l) : ∀ c k, chkF (mirL l) k c = chkF l k c := by
  intro c
  induction c with
  | zero => intro k; rfl
  | succ c ih =>
    intro k
    rw [chkF, chkF, mirL_get, mirL_get, badR_neg (h k).1 (h k).2, ih]
    rfl
theorem rightR_mir {l : List Rc} (h : turnOk l) : rightR (mirL l) = rightR l := by
  unfold rightR chkR
  rw [mirL_len, chkF_mir h]
theorem askR_mir {l : List Rc} {g t : Int} (h : turnOk l) (h1 : -1099511627776 ≤ g) (h2 : g ≤ 9223372036854775807) : askR (mirL l) (IntKind.i64.wrap (0 - g)) t = askR l g t := by
  unfold askR
  rw [rightR_mir h, amtR_neg h1 h2]
theorem idsW_mir (l : List Rc) (s k : Nat) : idsW (mirL l) s k = idsW l s k := by
  induction k with
  | zero => rfl
  | succ k ih => rw [idsW, idsW, ih, mirL_get]; rfl
theorem sumW_mir {l : List Rc} (h : rightR l = true) (hn : l.length ≤ 14) (s : Nat) : ∀ k, k ≤ l.length → sumW (mirL l) s k = -sumW l s k := by
  intro k
  induction k with
  | zero => intro _; rfl
  | succ k ih =>
    intro hk
    have b := bad_amt (right_ok h k (by omega)).1
    have bd := sumW_bd h hn s k (by omega)
    rw [sumW, sumW, ih (by omega), mirL_get]
    split
    · unfold negR
      simp only
      rw [neg_in (by omega) (by omega), IntWalk.i64_in (-sumW l s k + -(l.getD k (0, 0)).2) (by omega), IntWalk.i64_in _ (by omega)]
      omega
    · rfl
theorem difW_mir {l : List Rc} {g t : Int} (h : askR l g t = 0) (s : Nat) : difW (mirL l) (-g) s = difW l g s := by
  have hn := ask_len h
  have b := sumW_bd (ask_right h) hn s l.length (Nat.le_refl _)
  have bg := ask_g h
  rw [difW_in h]
  unfold difW
  rw [mirL_len, sumW_mir (ask_right h) hn s l.length (Nat.le_refl _), IntWalk.i64_in _ (by omega), absR_in (by omega) (by omega)]
  split <;> split <;> omega
theorem exS_mir {l : List Rc} {g t t0 : Int} (h : askR l g t0 = 0) : ∀ k, exS (mirL l) (-g) t k = exS l g t k := by
  intro k
  induction k with
  | zero => rfl
  | succ k ih => rw [exS, exS, ih, mirL_len, idsW_mir]; unfold hitW; rw [difW_mir h]
theorem nearF_mir {l : List Rc} {g t0 : Int} (h : askR l g t0 = 0) : ∀ k, nearF (mirL l) (-g) k = nearF l g k := by
  have bg := ask_g h
  intro k
  induction k with
  | zero =>
    rw [nearF, nearF, absR_in (by omega) (by omega), absR_in (by omega) (by omega)]
    split <;> split <;> omega
  | succ k ih => rw [nearF, nearF, ih, difW_mir h]
theorem exA_mir {l : List Rc} {g t : Int} (h : turnOk l) (h1 : -1099511627776 ≤ g) (h2 : g ≤ 9223372036854775807) : exA (mirL l) (IntKind.i64.wrap (0 - g)) t = exA l g t := by
  unfold exA
  rw [askR_mir h h1 h2]
  by_cases ha : askR l g t = 0
  · rw [neg_in h1 h2, mirL_len, exS_mir ha]
  · rw [if_pos (by simpa using ha), if_pos (by simpa using ha)]
theorem nearR_mir {l : List Rc} {g : Int} (h : turnOk l) (h1 : -1099511627776 ≤ g) (h2 : g ≤ 9223372036854775807) : nearR (mirL l) (IntKind.i64.wrap (0 - g)) = nearR l g := by
  unfold nearR
  rw [askR_mir h h1 h2]
  by_cases ha : askR l g 0 = 0
  · rw [neg_in h1 h2, mirL_len, nearF_mir ha]
  · rw [if_pos (by simpa using ha), if_pos (by simpa using ha)]
theorem cloneOwnRc_any (A : Option Addr) (c : Nat) (l : List Rc) (w : World) (hl : RdRow w A l.length 2 (elR l)) (hm : l.length ≤ 1000000) :
    Calls Try.prog 13 #[.slice A l.length c] w fun e w' => ∃ v, e = .returned v ∧ RdOwn w w' v 32 l.length 2 (elR l) ∧ Below w.heap.size w w' := by
  refine enterOwn tfine 32 l.length 2 (elR l) Try.func13 rfl 8 Try.ntmps13 [.c (.inp 1000 A l.length c)] [⟨1000, A, 2, l.length, elR l⟩] rfl rfl ⟨hl, trivial⟩ ⟨.inl ⟨rfl, rfl, rfl⟩, trivial⟩ ?_
  refine G.seqR tfine rfl trivial ?_
  refine G.seq (G.seqR tfine rfl trivial ?_)
  refine G.cond rfl (fun h => ?_) (fun h => ?_)
  · refine G.seqR tfine rfl trivial ?_
    have : A = none := by cases A <;> simp at h ⊢
    refine G.ret (endOwn.ret rfl ⟨rfl, row_none hl this⟩)
  refine G.skip ?_
  refine G.seqC tfine rfl trivial ?_
  refine GO.emptySlice tfine rfl rfl rfl rfl rfl rfl rfl fun A0 => ?_
  refine GO.more tfine rfl trivial ?_
  refine GO.appendNew (elR l) apRc rfl rfl rfl rfl rfl rfl rfl rfl (RowOf.ro rfl) (fun k hk => rfl) (fun i hi u hu => by simp [elR] at hu; rcases hu with rfl | rfl <;> rfl) (by unfold maxLen; omega) (by omega) (fun h0 => ?_) fun h0 c' hc' => ?_
  · refine GO.fin tfine rfl trivial ?_
    exact G.ret (endOwn.ret rfl ⟨rfl, h0⟩)
  · refine GO.fin tfine rfl trivial ?_
    exact G.ret (endOwn.ret rfl ⟨rfl, rfl, rfl, rfl, rfl, Nat.le_refl _, fun i hi => rfl⟩)
def elM (l : List Rc) (k i : Nat) : List Value := [I (l.getD i (0, 0)).1, I (if i < k then IntKind.i64.wrap (0 - (l.getD i (0, 0)).2) else (l.getD i (0, 0)).2)]
end Go.Proofs.Ytpoalimbjeehkaa
/- Chapter 38: all signs changed. -/
set_option linter.unusedVariables false
set_option linter.unusedSimpArgs false
set_option maxRecDepth 8000
set_option maxHeartbeats 2000000
namespace Go.Proofs.Ytpoalimbjeehkaa
open Go.Sx Go.RowKit
theorem elM_end (l : List Rc) (i : Nat) (h : i < l.length) : elM l l.length i = elR (mirL l) i := by
  unfold elM elR
  rw [mirL_get, if_pos h]
  rfl
theorem GapMirrored_any (A : Option Addr) (c : Nat) (l : List Rc) (g t : Int) (hg : g ≤ 9223372036854775807) (hb : ∀ i, (l.getD i (0, 0)).2 ≤ 9223372036854775807) (w : World) (hl : RdRow w A l.length 2 (elR l)) :
    Calls Try.prog 7 #[.slice A l.length c, .agg #[I g, I t]] w fun e w' => e = .returned (.bool true) ∧ Below w.heap.size w w' := by
  refine enterPlain tfine Try.func7 rfl 105 Try.ntmps7 [.c (.inp 1000 A l.length c), .agg [.k (I g), .k (I t)]] [⟨1000, A, 2, l.length, elR l⟩] rfl rfl ⟨hl, trivial⟩ ⟨.inl ⟨rfl, rfl, rfl⟩, ⟨trivial, trivial, trivial⟩, trivial⟩ ?_
  refine G.seqR tfine rfl trivial ?_
  refine G.seq ?_
  refine G.seqC tfine rfl trivial ?_
  refine GO.callPlain (v := .bool true) rfl rfl rfl rfl (fun args w => Try.call10 args w) (fun ρ w hs hok => awakeG_any w) ?_
  refine GO.fin tfine rfl trivial ?_
  refine G.cond_false rfl ?_
  refine G.skip ?_
  refine G.seq ?_
  refine G.seqR tfine rfl ?_ ?_
  · simp [AllP, condB]
  refine G.cond (b := decide ((l.length : Int) > 8) || decide (g < -1099511627776)) rfl (fun h => ?_) (fun h => ?_)
  · refine G.seqR tfine rfl trivial ?_
    exact G.ret (endK.ret rfl rfl)
  obtain ⟨hl8, hg1⟩ : l.length ≤ 8 ∧ -1099511627776 ≤ g := by
    simp only [Bool.or_eq_false_iff, decide_eq_false_iff_not] at h
    omega
  have h8 : l.length ≤ 8 ∨ 14 < l.length := .inl hl8
  have h8' : (mirL l).length ≤ 8 ∨ 14 < (mirL l).length := by rw [mirL_len]; exact h8
  have hm : l.length ≤ 1000000 := by omega
  have hm' : (mirL l).length ≤ 1000000 := by rw [mirL_len]; exact hm
  refine G.skip ?_
  refine G.seqC tfine rfl trivial ?_
  refine GO.callOwn (ty := 32) (n := l.length) (sz := 2) (el := elR l) rfl rfl rfl rfl rfl rfl rfl (fun args w => Try.call13 args w) (fun ρ w hs hok => cloneOwnRc_any A c l w (hs.row (cap := c) rfl (hok _ List.mem_cons_self)) hm) (fun h0 A2 c2 => ?_) (fun h0 c2 => ?_)
  · refine GO.fin tfine rfl trivial ?_
    have htk : turnOk l := fun i => ⟨by
      rw [List.getD_eq_getElem?_getD, List.getElem?_eq_none (by omega)]
      decide, hb i⟩
    refine G.seq ?_
    refine G.seqR tfine rfl trivial ?_
    refine G.block (G.loop (fun _ : Unit => St.of [(0, .v (.c (.inp 1000 A l.length c))), (3, .v (.c (.ptr 3 0 1 0))), (5, .v (.c (.k (.slice A2 0 c2)))), (28, .v (.c (.k (I 0)))), (29, .v (.c (.k (I 0))))] [(3, .arr 23 1 2 (fun i => ([I g, I t].drop (i * 1)).take 1) 0), (1000, .ro 2 l.length (elR l))])
      (fun _ => True) (fun _ => 0) () trivial (St.le_of rfl ⟨⟨_, rfl, Blk.le_refl _⟩, ⟨_, rfl, Blk.le_refl _⟩, trivial⟩ ⟨rfl, rfl, rfl, rfl, rfl, trivial⟩) ?_)
    rintro _ _
    refine G.seqR tfine rfl trivial ?_
    refine G.seq ?_
    refine G.cond_false rfl ?_
    refine G.exit ?_
    refine G.seqDraw hmix [0, 1, 0, 4, 0, 16, 63, 127, 255, 255, 511, 2047] [(1, 800), (1, 850), (6, 801), (6, 851)] rfl rfl rfl ?_
    refine GD.more tfine 0 rfl rfl (by first | trivial | simp [AllP]) ?_
    refine GD.callAns [.c (.r l.length 2 (elR l))] [800] 1 rfl rfl rfl rfl rfl ⟨rfl, rfl, rfl, trivial⟩ rfl (fun args w => Try.call13 args w) (fun m1 hle ρ w hs hok => cloneRc_any A c l w (hs.row (cap := c) (hle.at rfl) (hok _ List.mem_cons_self)) hm) ?_
    refine GD.more tfine 2 rfl rfl (by first | trivial | simp [AllP]) ?_
    refine GD.callAns [.c (.r (exA l g t).1.length 1 (elI (exA l g t).1)), .c (.p (I (exA l g t).2))] [801] 6 rfl rfl rfl rfl rfl ⟨rfl, rfl, rfl, trivial⟩ rfl (fun args w => Try.call15 args w) (fun m1 hle ρ w hs hok => explain_any _ _ l g t w (hs.rowR (hle.at rfl) (hok _ List.mem_cons_self) (Nat.le_refl _)) h8) ?_
    refine GD.fin tfine 7 rfl rfl trivial ?_
    refine G.seqDraw hmix [0, 1, 0, 4, 12, 0, 32, 127, 255, 511, 511, 1023, 4095] [(1, 802), (1, 852), (7, 803), (7, 853)] rfl rfl rfl ?_
    refine GD.more tfine 0 rfl rfl (by first | trivial | simp [AllP]) ?_
    refine GD.callAns [.c (.r (mirL l).length 2 (elR (mirL l)))] [802] 1 rfl rfl rfl rfl rfl ⟨rfl, rfl, rfl, trivial⟩ rfl (fun args w => Try.call13 args w) (fun m1 hle ρ w hs hok => by
      have := cloneRc_any A2 c2 (mirL l) w (fun h1 => by rw [mirL_len] at h1; omega) hm'
      rw [show (mirL l).length = 0 by rw [mirL_len]; exact h0] at this ⊢
      exact this) ?_
    refine GD.more tfine 2 rfl rfl (by first | trivial | simp [AllP]) ?_
    refine GD.callAns [.c (.r (exA (mirL l) (IntKind.i64.wrap (0 - g)) t).1.length 1 (elI (exA (mirL l) (IntKind.i64.wrap (0 - g)) t).1)), .c (.p (I (exA (mirL l) (IntKind.i64.wrap (0 - g)) t).2))] [803] 7 rfl rfl rfl rfl rfl ⟨rfl, rfl, rfl, trivial⟩ rfl (fun args w => Try.call15 args w) (fun m1 hle ρ w hs hok => explain_any _ _ (mirL l) (IntKind.i64.wrap (0 - g)) t w (hs.rowR (hle.at rfl) (hok _ List.mem_cons_self) (Nat.le_refl _)) h8') ?_
    refine GD.fin tfine 8 rfl rfl trivial ?_
    refine G.seqDraw hmix [0, 1, 0, 4, 15, 31, 63, 63, 127, 511] [(1, 804), (1, 854)] rfl rfl rfl ?_
    refine GD.more tfine 0 rfl rfl (by first | trivial | simp [AllP]) ?_
    refine GD.callAns [.c (.r l.length 2 (elR l))] [804] 1 rfl rfl rfl rfl rfl ⟨rfl, rfl, rfl, trivial⟩ rfl (fun args w => Try.call13 args w) (fun m1 hle ρ w hs hok => cloneRc_any A c l w (hs.row (cap := c) (hle.at rfl) (hok _ List.mem_cons_self)) hm) ?_
    refine GD.more tfine 2 rfl rfl (by first | trivial | simp [AllP]) ?_
    refine GD.call (v := .tuple #[I (nearR l g).1, I (nearR l g).2]) 4 rfl rfl rfl rfl rfl (fun args w => Try.call23 args w) (fun m1 hle ρ w hs hok => nearest_any _ _ l g w (hs.rowR (hle.at rfl) (hok _ List.mem_cons_self) (Nat.le_refl _))) ?_
    refine GD.fin tfine 5 rfl rfl trivial ?_
    refine G.seqDraw hmix [0, 1, 0, 4, 12, 31, 63, 127, 127, 255, 1023] [(1, 805), (1, 855)] rfl rfl rfl ?_
    refine GD.more tfine 0 rfl rfl (by first | trivial | simp [AllP]) ?_
    refine GD.callAns [.c (.r (mirL l).length 2 (elR (mirL l)))] [805] 1 rfl rfl rfl rfl rfl ⟨rfl, rfl, rfl, trivial⟩ rfl (fun args w => Try.call13 args w) (fun m1 hle ρ w hs hok => by
      have := cloneRc_any A2 c2 (mirL l) w (fun h1 => by rw [mirL_len] at h1; omega) hm'
      rw [show (mirL l).length = 0 by rw [mirL_len]; exact h0] at this ⊢
      exact this) ?_
    refine GD.more tfine 2 rfl rfl (by first | trivial | simp [AllP]) ?_
    refine GD.call (v := .tuple #[I (nearR (mirL l) (IntKind.i64.wrap (0 - g))).1, I (nearR (mirL l) (IntKind.i64.wrap (0 - g))).2]) 5 rfl rfl rfl rfl rfl (fun args w => Try.call23 args w) (fun m1 hle ρ w hs hok => nearest_any _ _ (mirL l) (IntKind.i64.wrap (0 - g)) w (hs.rowR (hle.at rfl) (hok _ List.mem_cons_self) (Nat.le_refl _))) ?_
    refine GD.fin tfine 6 rfl rfl trivial ?_
    rw [exA_mir htk hg1 hg, nearR_mir htk hg1 hg]
    have hex : (exA l g t).1.length ≤ 64 := exA_len l g t h8
    refine G.seqC tfine rfl trivial ?_
    refine GO.callPlain (v := .bool (eqI (exA l g t).1 (exA l g t).1)) rfl rfl rfl rfl (fun args w => Try.call25 args w) (fun ρ w hs hok => equal_any (rowAd ρ 801) (rowAd ρ 803) (ρ 851).1 (ρ 853).1 (exA l g t).1 (exA l g t).1 w (hs.rowR rfl (hok _ List.mem_cons_self) (Nat.le_refl _)) (hs.rowR rfl (hok _ (List.mem_cons_of_mem _ List.mem_cons_self)) (Nat.le_refl _)) (by omega)) ?_
    refine GO.fin tfine rfl ?_ ?_
    · first | trivial | (simp [AllP, condB]; done) | (simp only [AllP]; and_intros <;> first | trivial | decide | omega) | (simp [AllP, condB]; intros; and_intros <;> first | assumption | omega) | (simp [AllP, condB]; intros; simp_all; done) | (simp [AllP, condB]; intros; simp_all; omega) | (simp [AllP, condB]; omega)
    refine G.ret (endK.ret rfl ?_)
    simp [eqI_self, condB]
  refine GO.fin tfine rfl trivial ?_
  refine G.seq ?_
  refine G.seqR tfine rfl trivial ?_
  refine G.block (G.loop (fun k : Nat => St.of [(0, .v (.c (.inp 1000 A l.length c))), (3, .v (.c (.ptr 3 0 1 0))), (5, .v (.c (.slc 26 0 2 l.length c2))), (28, .v (.c (.k (I l.length)))), (29, .v (.c (.k (I k))))] [(3, .arr 23 1 2 (fun i => ([I g, I t].drop (i * 1)).take 1) 0), (26, .arr 32 2 l.length (elM l k) 0), (1000, .ro 2 l.length (elR l))])
    (fun k => k ≤ l.length ∧ ∀ j, j < k → -1099511627776 ≤ (l.getD j (0, 0)).2) (fun k => l.length - k) 0 ⟨Nat.zero_le _, fun j hj => by omega⟩ (St.le_of rfl ⟨⟨_, rfl, Blk.le_refl _⟩, ⟨_, rfl, rfl, rfl, Nat.le_refl _, fun q hq => ?_, Nat.le_refl _⟩, ⟨_, rfl, Blk.le_refl _⟩, trivial⟩ ⟨rfl, rfl, rfl, rfl, rfl, trivial⟩) ?_)
  · show elM l 0 q = elR l q
    unfold elM elR
    rw [if_neg (by omega)]
  rintro k ⟨hk, hpre⟩
  refine G.seqR tfine rfl trivial ?_
  refine G.seq ?_
  refine G.cond (b := decide ((k : Int) < (l.length : Int))) rfl (fun h2 => ?_) (fun h2 => ?_)
  · have h2 := of_decide_eq_true h2
    have hlt : k < l.length := by omega
    have ek : elM l k k = [I (l.getD k (0, 0)).1, I (l.getD k (0, 0)).2] := by
      unfold elM
      rw [if_neg (by omega)]
    refine G.skip ?_
    refine G.seq ?_
    refine G.block ?_
    refine G.seqR tfine rfl trivial ?_
    refine G.seq ?_
    refine G.seqR tfine rfl ⟨by simpa using hlt, by omega, by omega, trivial⟩ ?_
    rw [show 0 + (k : Int).toNat = k by omega]
    refine G.cond (b := decide ((if k < k then IntKind.i64.wrap (0 - (l.getD k (0, 0)).2) else (l.getD k (0, 0)).2) < -1099511627776)) rfl (fun h3 => ?_) (fun h3 => ?_)
    · refine G.seqR tfine rfl trivial ?_
      exact G.ret (endK.ret rfl rfl)
    rw [if_neg (by omega)] at h3
    have h3 := of_decide_eq_false h3
    refine G.skip ?_
    refine G.reg tfine rfl ⟨by simpa using hlt, by omega, by omega, by simpa using hlt, by omega, by omega, trivial⟩ ?_
    refine G.reg tfine rfl trivial ?_
    rw [IntWalk.i64_in ((k : Int) + 1) (by omega)]
    refine ⟨k + 1, ⟨hlt, fun j hj => ?_⟩, (by show l.length - (k + 1) < l.length - k; omega), St.le_of rfl ⟨⟨_, rfl, Blk.le_refl _⟩, ⟨_, rfl, rfl, rfl, Nat.le_refl _, fun q hq => ?_, Nat.le_refl _⟩, ⟨_, rfl, Blk.le_refl _⟩, trivial⟩ ⟨rfl, rfl, rfl, rfl, by simp [up, I], trivial⟩⟩
    · rcases Nat.lt_succ_iff_lt_or_eq.1 hj with h5 | rfl
      · exact hpre j h5
      · omega
    · simp only [show 0 + (k : Int).toNat = k by omega]
      rw [if_neg (Nat.lt_irrefl k), ek]
      by_cases hqk : q = k
      · subst hqk
        rw [show q.beq q = true from Nat.beq_refl _, cond_true]
        unfold elM
        rw [if_pos (by omega)]
        rfl
      · rw [show q.beq k = false from Bool.eq_false_iff.mpr fun hc => hqk (Nat.eq_of_beq_eq_true hc), cond_false]
        unfold elM
        by_cases h6 : q < k
        · rw [if_pos h6, if_pos (by omega)]
        · rw [if_neg h6, if_neg (by omega)]
  have h2 := of_decide_eq_false h2
  have : k = l.length := by omega
  subst this
  have htk : turnOk l := fun i => ⟨by
    by_cases hi : i < l.length
    · exact hpre i hi
    · rw [List.getD_eq_getElem?_getD, List.getElem?_eq_none (by omega)]
      decide, hb i⟩
  refine G.exit ?_
  refine G.seqDraw hmix [0, 1, 0, 4, 0, 16, 63, 127, 255, 255, 511, 2047] [(1, 800), (1, 850), (6, 801), (6, 851)] rfl rfl rfl ?_
  refine GD.more tfine 0 rfl rfl (by first | trivial | simp [AllP]) ?_
  refine GD.callAns [.c (.r l.length 2 (elR l))] [800] 1 rfl rfl rfl rfl rfl ⟨rfl, rfl, rfl, trivial⟩ rfl (fun args w => Try.call13 args w) (fun m1 hle ρ w hs hok => cloneRc_any A c l w (hs.row (cap := c) (hle.at rfl) (hok _ List.mem_cons_self)) hm) ?_
  refine GD.more tfine 2 rfl rfl (by first | trivial | simp [AllP]) ?_
  refine GD.callAns [.c (.r (exA l g t).1.length 1 (elI (exA l g t).1)), .c (.p (I (exA l g t).2))] [801] 6 rfl rfl rfl rfl rfl ⟨rfl, rfl, rfl, trivial⟩ rfl (fun args w => Try.call15 args w) (fun m1 hle ρ w hs hok => explain_any _ _ l g t w (hs.rowR (hle.at rfl) (hok _ List.mem_cons_self) (Nat.le_refl _)) h8) ?_
  refine GD.fin tfine 7 rfl rfl trivial ?_
  refine G.seqDraw hmix [0, 1, 0, 4, 12, 0, 32, 127, 255, 511, 511, 1023, 4095] [(1, 802), (1, 852), (7, 803), (7, 853)] rfl rfl rfl ?_
  refine GD.more tfine 0 rfl rfl (by first | trivial | simp [AllP]) ?_
  refine GD.callAns [.c (.r (mirL l).length 2 (elR (mirL l)))] [802] 1 rfl rfl rfl rfl rfl ⟨rfl, rfl, rfl, trivial⟩ rfl (fun args w => Try.call13 args w) (fun m1 hle ρ w hs hok => by
    have hrd : RdRow w (some ⟨(ρ 26).1, (ρ 26).2 + 0 * 2, none⟩) (mirL l).length 2 (elR (mirL l)) := by
      rw [mirL_len]
      exact (hs.rdArr (x := 26) (hle.at rfl) 0 l.length (by omega)).congr fun i hi => by rw [Nat.zero_add]; exact (elM_end l i hi).symm
    have := cloneRc_any (some ⟨(ρ 26).1, (ρ 26).2 + 0 * 2, none⟩) c2 (mirL l) w hrd hm'
    rw [mirL_len] at this ⊢
    exact this) ?_
  refine GD.more tfine 2 rfl rfl (by first | trivial | simp [AllP]) ?_
  refine GD.callAns [.c (.r (exA (mirL l) (IntKind.i64.wrap (0 - g)) t).1.length 1 (elI (exA (mirL l) (IntKind.i64.wrap (0 - g)) t).1)), .c (.p (I (exA (mirL l) (IntKind.i64.wrap (0 - g)) t).2))] [803] 7 rfl rfl rfl rfl rfl ⟨rfl, rfl, rfl, trivial⟩ rfl (fun args w => Try.call15 args w) (fun m1 hle ρ w hs hok => explain_any _ _ (mirL l) (IntKind.i64.wrap (0 - g)) t w (hs.rowR (hle.at rfl) (hok _ List.mem_cons_self) (Nat.le_refl _)) h8') ?_
  refine GD.fin tfine 8 rfl rfl trivial ?_
  refine G.seqDraw hmix [0, 1, 0, 4, 15, 31, 63, 63, 127, 511] [(1, 804), (1, 854)] rfl rfl rfl ?_
  refine GD.more tfine 0 rfl rfl (by first | trivial | simp [AllP]) ?_
  refine GD.callAns [.c (.r l.length 2 (elR l))] [804] 1 rfl rfl rfl rfl rfl ⟨rfl, rfl, rfl, trivial⟩ rfl (fun args w => Try.call13 args w) (fun m1 hle ρ w hs hok => cloneRc_any A c l w (hs.row (cap := c) (hle.at rfl) (hok _ List.mem_cons_self)) hm) ?_
  refine GD.more tfine 2 rfl rfl (by first | trivial | simp [AllP]) ?_
  refine GD.call (v := .tuple #[I (nearR l g).1, I (nearR l g).2]) 4 rfl rfl rfl rfl rfl (fun args w => Try.call23 args w) (fun m1 hle ρ w hs hok => nearest_any _ _ l g w (hs.rowR (hle.at rfl) (hok _ List.mem_cons_self) (Nat.le_refl _))) ?_
  refine GD.fin tfine 5 rfl rfl trivial ?_
  refine G.seqDraw hmix [0, 1, 0, 4, 12, 31, 63, 127, 127, 255, 1023] [(1, 805), (1, 855)] rfl rfl rfl ?_
  refine GD.more tfine 0 rfl rfl (by first | trivial | simp [AllP]) ?_
  refine GD.callAns [.c (.r (mirL l).length 2 (elR (mirL l)))] [805] 1 rfl rfl rfl rfl rfl ⟨rfl, rfl, rfl, trivial⟩ rfl (fun args w => Try.call13 args w) (fun m1 hle ρ w hs hok => by
    have hrd : RdRow w (some ⟨(ρ 26).1, (ρ 26).2 + 0 * 2, none⟩) (mirL l).length 2 (elR (mirL l)) := by
      rw [mirL_len]
      exact (hs.rdArr (x := 26) (hle.at rfl) 0 l.length (by omega)).congr fun i hi => by rw [Nat.zero_add]; exact (elM_end l i hi).symm
    have := cloneRc_any (some ⟨(ρ 26).1, (ρ 26).2 + 0 * 2, none⟩) c2 (mirL l) w hrd hm'
    rw [mirL_len] at this ⊢
    exact this) ?_
  refine GD.more tfine 2 rfl rfl (by first | trivial | simp [AllP]) ?_
  refine GD.call (v := .tuple #[I (nearR (mirL l) (IntKind.i64.wrap (0 - g))).1, I (nearR (mirL l) (IntKind.i64.wrap (0 - g))).2]) 5 rfl rfl rfl rfl rfl (fun args w => Try.call23 args w) (fun m1 hle ρ w hs hok => nearest_any _ _ (mirL l) (IntKind.i64.wrap (0 - g)) w (hs.rowR (hle.at rfl) (hok _ List.mem_cons_self) (Nat.le_refl _))) ?_
  refine GD.fin tfine 6 rfl rfl trivial ?_
  rw [exA_mir htk hg1 hg, nearR_mir htk hg1 hg]
  have hex : (exA l g t).1.length ≤ 64 := exA_len l g t h8
  refine G.seqC tfine rfl trivial ?_
  refine GO.callPlain (v := .bool (eqI (exA l g t).1 (exA l g t).1)) rfl rfl rfl rfl (fun args w => Try.call25 args w) (fun ρ w hs hok => equal_any (rowAd ρ 801) (rowAd ρ 803) (ρ 851).1 (ρ 853).1 (exA l g t).1 (exA l g t).1 w (hs.rowR rfl (hok _ List.mem_cons_self) (Nat.le_refl _)) (hs.rowR rfl (hok _ (List.mem_cons_of_mem _ List.mem_cons_self)) (Nat.le_refl _)) (by omega)) ?_
  refine GO.fin tfine rfl ?_ ?_
  · first | trivial | (simp [AllP, condB]; done) | (simp only [AllP]; and_intros <;> first | trivial | decide | omega) | (simp [AllP, condB]; intros; and_intros <;> first | assumption | omega) | (simp [AllP, condB]; intros; simp_all; done) | (simp [AllP, condB]; intros; simp_all; omega) | (simp [AllP, condB]; omega)
  refine G.ret (endK.ret rfl ?_)
  simp [eqI_self, condB]
end Go.Proofs.Ytpoalimbjeehkaa
/- Chapter 38: what explains a gap with the fewest records; plain laws, and one number less of a list of ours. -/
set_option linter.unusedVariables false
set_option linter.unusedSimpArgs false
set_option maxRecDepth 8000
set_option maxHeartbeats 1000000
namespace Go.Proofs.Ytpoalimbjeehkaa
open Go.Sx Go.RowKit
theorem cloneIO_any (A : Option Addr) (c : Nat) (L : List Int) (w : World) (hl : RdRow w A L.length 1 (elI L)) (hm : L.length ≤ 1000000) (h0 : 0 < L.length) :
    Calls Try.prog 19 #[.slice A L.length c] w fun e w' => OwnNew w w' e 3 L.length 1 (elI L) ∧ Below w.heap.size w w' := by
  refine enterOwnNew tfine 3 L.length 1 (elI L) Try.func19 rfl 8 Try.ntmps19 [.c (.inp 1000 A L.length c)] [⟨1000, A, 1, L.length, elI L⟩] rfl rfl ⟨hl, trivial⟩ ⟨.inl ⟨rfl, rfl, rfl⟩, trivial⟩ ?_
  refine G.seqR tfine rfl trivial ?_
  refine G.seq (G.seqR tfine rfl trivial ?_)
  refine G.cond rfl (fun h => ?_) (fun h => ?_)
  · exfalso
    have hA : A = none := by cases A <;> simp at h ⊢
    have := row_none hl hA
    omega
  refine G.skip ?_
  refine G.seqC tfine rfl trivial ?_
  refine GO.emptySliceS tfine rfl rfl rfl rfl rfl rfl rfl fun A0 hA0 => ?_
  refine GO.more tfine rfl trivial ?_
  refine GO.appendNew (elI L) apI rfl rfl rfl rfl rfl rfl rfl rfl (RowOf.ro rfl) (fun i hi => rfl) (fun i hi u hu => by simp [elI] at hu; subst hu; rfl) (by unfold maxLen; omega) (by omega) (fun h1 => ?_) fun h1 c' hc' => ?_
  · omega
  · refine GO.fin tfine rfl trivial ?_
    exact G.ret (endOwnN.ret rfl rfl hc' rfl fun i hi => rfl)
def delF (el : Nat → List Value) (i q : Nat) : List Value := if q < i then el q else el (q + 1)
theorem deleteIs_any (b n c i : Nat) (el : Nat → List Value) (w : World) (ho : OwnAt w b 3 n 1 el 0) (hi : i < n) (hc : n ≤ c) (h1 : ∀ q, q < n → ∀ u ∈ el q, u.oneCell' = true) (hn : n ≤ 1000000) :
    Calls Try.prog 26 #[.slice (some ⟨b, 0, none⟩) n c, I i, I ((i : Int) + 1)] w fun e w' => e = .returned (.slice (some ⟨b, 0, none⟩) (n - 1) c) ∧ Fr w [b] w' ∧ OwnAt w' b 3 (n - 1) 1 (delF el i) 0 := by
  refine (enterBwS tfine 1900 b 1 (n - 1) c [⟨1900, b, .arr 3 1 n el 0⟩] [⟨1900, b, .arr 3 1 (n - 1) (delF el i) 0⟩] Try.func26 rfl 33 Try.ntmps26 [.c (.slc 1900 0 1 n c), .c (.k (I i)), .c (.k (I ((i : Int) + 1)))] []
    trivial trivial ⟨trivial, trivial⟩ ⟨⟨Nat.le_refl _, trivial, trivial, ho⟩, trivial⟩ rfl rfl ⟨.inl rfl, trivial, trivial, trivial⟩ (fun q hq => by simp only [List.mem_cons, List.not_mem_nil, or_false] at hq; subst hq; exact ⟨_, List.mem_cons_self, rfl, rfl⟩) ⟨trivial, trivial⟩ ⟨_, List.mem_cons_self, rfl, rfl⟩ ?_).mono fun e w' h => ⟨h.1, h.2.1, h.2.2.1⟩
  refine G.seqR tfine rfl trivial ?_
  refine G.seqC tfine rfl trivial ?_
  refine GO.slice3 tfine i ((i : Int) + 1) n rfl rfl rfl rfl rfl rfl rfl rfl rfl rfl (by omega) (by omega) (by omega) (by omega) (GO.nil ?_)
  refine G.seq (G.seqR tfine rfl trivial ?_)
  refine G.cond (b := ((i : Int) == (i : Int) + 1)) rfl (fun h => ?_) (fun h => ?_)
  · exfalso
    simp only [beq_iff_eq] at h
    omega
  refine G.skip ?_
  refine G.seqR tfine rfl trivial ?_
  have e1 : i + (n - (i + 1)) = n - 1 := by omega
  have e2 : (n - (n - 1)) * 1 = 1 := by omega
  have hel : ∀ q, q < i + (n - (i + 1)) → delF el i q = if q < i then el q else el (i + 1 + (q - i)) := fun q hq => by
    unfold delF
    by_cases h : q < i
    · rw [if_pos h, if_pos h]
    · rw [if_neg h, if_neg h]
      congr 1
      omega
  refine G.join (fun _ : Unit => St.of [(0, .v (.c (.slc 1900 0 1 (n - 1) c))), (7, .v (.c (.k (I n))))] [(1900, .arr 3 1 (n - 1) (delF el i) 1)]) (fun _ => True) ?_ ?_
  · by_cases hcc : i + 1 < c
    · refine G.draw (cls := [0, 0, 3, 0, 0, 24, 63, 127]) (X := [(6, 1900)]) hmix rfl rfl rfl ?_
      refine GD.more tfine 0 rfl rfl ?_ ?_
      · simp only [AllP]; and_intros <;> first | trivial | omega
      have z1 : ((i : Int).toNat - Int.toNat 0) = i := by simp
      have z2 : c - Int.toNat 0 = c := by simp
      have z3 : (0 + Int.toNat 0) = 0 := rfl
      have z4 : (0 + ((i : Int) + 1).toNat) = i + 1 := by omega
      have z5 : ((n : Int).toNat - ((i : Int) + 1).toNat) = n - (i + 1) := by omega
      have z6 : c - ((i : Int) + 1).toNat = c - (i + 1) := by omega
      rw [z1, z2, z3, z4, z5, z6]
      refine GD.appendIn (i := i) (j := i + 1) (k := n - (i + 1)) (c2 := c - (i + 1)) (delF el i) 6 rfl apI rfl rfl rfl rfl rfl rfl rfl (by omega) (by omega) (by omega) h1 hel ?_
      rw [e1, e2]
      refine GD.fin tfine 7 rfl rfl trivial ?_
      exact ⟨(), trivial, St.le_of rfl ⟨⟨_, rfl, Blk.le_refl _⟩, trivial⟩ ⟨rfl, rfl, trivial⟩⟩
    · have hn1 : n = i + 1 := by omega
      have hc1 : c = i + 1 := by omega
      subst hn1 hc1
      refine G.draw (cls := [0, 0, 3, 0, 0, 24, 63, 127]) (X := [(6, 1900)]) hmix rfl rfl rfl ?_
      refine GD.op1 tfine 0 rfl rfl trivial rfl ?_
      refine GD.op1 tfine 1 rfl rfl trivial rfl ?_
      refine GD.op1 tfine 2 rfl rfl ?_ rfl ?_
      · simp only [AllP]; and_intros <;> first | trivial | omega
      refine GD.op1 tfine 3 rfl rfl trivial rfl ?_
      refine GD.op1 tfine 4 rfl rfl trivial rfl ?_
      have z1 : ((i : Int).toNat - Int.toNat 0) = i := by simp
      have z2 : (i + 1) - Int.toNat 0 = i + 1 := by simp
      have z3 : (0 + Int.toNat 0) = 0 := rfl
      rw [z1, z2, z3]
      refine GD.sliceEnd (n := i + 1) tfine 5 rfl rfl rfl rfl rfl rfl rfl rfl rfl ?_
      refine GD.appendIn (i := i) (j := 0) (k := 0) (c2 := 0) (delF el i) 6 rfl apI rfl rfl rfl rfl rfl rfl rfl (by omega) (by omega) (by omega) h1 (fun q hq => by rw [hel q (by omega), if_pos (by omega), if_pos (by omega)]) ?_
      rw [show i + 0 = i + 1 - 1 by omega, show (i + 1 - (i + 1 - 1)) * 1 = 1 by omega]
      refine GD.fin tfine 7 rfl rfl trivial ?_
      exact ⟨(), trivial, St.le_of rfl ⟨⟨_, rfl, Blk.le_refl _⟩, trivial⟩ ⟨rfl, rfl, trivial⟩⟩
  rintro _ _
  refine G.seqC tfine rfl ?_ ?_
  · simp only [AllP]; and_intros <;> first | trivial | omega
  have y1 : (0 + (((n - 1 : Nat) : Int)).toNat) = n - 1 := by simp
  have y2 : ((n : Int).toNat - (((n - 1 : Nat) : Int)).toNat) = n - (n - 1) := by simp
  have y3 : c - (((n - 1 : Nat) : Int)).toNat = c - (n - 1) := by simp
  rw [y1, y2, y3]
  refine GO.clear (i := n - 1) (k := n - (n - 1)) (c := c - (n - 1)) apI rfl rfl rfl rfl rfl (by omega) (by omega) (by omega) (fun w => by kernel_rfl) (fun u hu => by simp [Value.cells] at hu; subst hu; rfl) (GO.nil ?_)
  refine G.seqR tfine rfl trivial ?_
  exact G.ret (endBwS.ret rfl rfl ⟨⟨_, _, rfl, fun q hq => rfl⟩, trivial⟩)
theorem elI_erase (L : List Int) (i q : Nat) (hq : q < L.length - 1) (hi : i < L.length) : elI (L.eraseIdx i) q = delF (elI L) i q := by
  have h1 : q < (L.eraseIdx i).length := by rw [List.length_eraseIdx]; split <;> omega
  have : (L.eraseIdx i).getD q 0 = if q < i then L.getD q 0 else L.getD (q + 1) 0 := by
    simp only [List.getD_eq_getElem?_getD]
    rw [List.getElem?_eraseIdx]
    split <;> rfl
  unfold delF elI
  rw [this]
  split <;> rfl
/-! ### Sets within sets -/
theorem idsW_off (l : List Rc) (i j : Nat) (h : j < 2 ^ i) : idsW l j (i + 1) = idsW l j i := by
  rw [idsW, Nat.testBit_lt_two_pow h, if_neg (by decide)]
theorem idsW_low (l : List Rc) (i j k : Nat) (h : k ≤ i) : idsW l (2 ^ i + j) k = idsW l j k := by
  induction k with
  | zero => rfl
  | succ k ih => rw [idsW, idsW, ih (by omega), Nat.testBit_two_pow_add_gt (by omega)]
theorem idsW_on (l : List Rc) (i j : Nat) (h : j < 2 ^ i) : idsW l (2 ^ i + j) (i + 1) = idsW l j i ++ [(l.getD i (0, 0)).1] := by
  rw [idsW, Nat.testBit_two_pow_add_eq, Nat.testBit_lt_two_pow h, if_pos (by decide), idsW_low l i j i (Nat.le_refl _)]
theorem sub_one {b : List Int} {x : Int} (h : b.Sublist [x]) : b = [] ∨ b = [x] := by
  cases h with
  | cons _ h => exact .inl (by simpa using h)
  | cons_cons _ h => exact .inr (by simpa using h)
theorem sub_set (l : List Rc) (s : Nat) : ∀ (k : Nat) (cl : List Int), cl.Sublist (idsW l s k) → ∃ s', s' < 2 ^ k ∧ idsW l s' k = cl := by
  intro k
  induction k with
  | zero =>
    intro cl h
    have : cl = [] := by simpa [idsW] using h
    exact ⟨0, by decide, by rw [this]; rfl⟩
  | succ k ih =>
    intro cl h
    rw [idsW] at h
    have h2 : 2 ^ (k + 1) = 2 ^ k + 2 ^ k := by rw [Nat.pow_succ]; omega
    by_cases hb : s.testBit k = true
    · rw [if_pos hb] at h
      obtain ⟨a, b, rfl, h3, h4⟩ := List.sublist_append_iff.1 h
      obtain ⟨s', h5, h6⟩ := ih a h3
      rcases sub_one h4 with h7 | h7
      · subst h7
        exact ⟨s', by omega, by rw [idsW_off l k s' h5, h6, List.append_nil]⟩
      · subst h7
        exact ⟨2 ^ k + s', by omega, by rw [idsW_on l k s' h5, h6]⟩
    · rw [if_neg hb] at h
      obtain ⟨s', h5, h6⟩ := ih cl h
      exact ⟨s', by omega, by rw [idsW_off l k s' h5, h6]⟩
theorem one_set (l : List Rc) (j : Nat) : ∀ k, idsW l (2 ^ j) k = if j < k then [(l.getD j (0, 0)).1] else [] := by
  intro k
  induction k with
  | zero => rw [if_neg (by omega)]; rfl
  | succ k ih =>
    rw [idsW, ih, Nat.testBit_two_pow]
    by_cases h : j = k
    · subst h
      rw [if_pos (by simp), if_neg (by omega), if_pos (by omega)]
      rfl
    · rw [if_neg (by simpa using h)]
      by_cases h2 : j < k
      · rw [if_pos h2, if_pos (by omega)]
      · rw [if_neg h2, if_neg (by omega)]
theorem ids_mem (l : List Rc) (s : Nat) : ∀ k x, x ∈ idsW l s k → ∃ j, j < k ∧ x = (l.getD j (0, 0)).1 := by
  intro k
  induction k with
  | zero => intro x h; cases h
  | succ k ih =>
    intro x h
    rw [idsW] at h
    split at h
    · rcases List.mem_append.1 h with h1 | h1
      · obtain ⟨j, h2, h3⟩ := ih x h1; exact ⟨j, by omega, h3⟩
      · exact ⟨k, by omega, by simpa using h1⟩
    · obtain ⟨j, h2, h3⟩ := ih x h; exact ⟨j, by omega, h3⟩
theorem ids_up {l : List Rc} (hr : rightR l = true) (s : Nat) : ∀ k, k ≤ l.length → (idsW l s k).Pairwise (· < ·) := by
  intro k
  induction k with
  | zero => intro _; exact List.Pairwise.nil
  | succ k ih =>
    intro hk
    rw [idsW]
    split
    · rw [List.pairwise_append]
      refine ⟨ih (by omega), List.pairwise_singleton _ _, fun a ha b hb => ?_⟩
      obtain ⟨j, h1, h2⟩ := ids_mem l s k a ha
      have : b = (l.getD k (0, 0)).1 := by simpa using hb
      rw [h2, this]
      exact right_inc hr j k h1 (by omega)
    · exact ih (by omega)
theorem ids_asc {l : List Rc} (hr : rightR l = true) (s : Nat) : ascN (idsW l s l.length) = false := by
  refine any_none fun k hk => ?_
  have hp := List.pairwise_iff_getElem.1 (ids_up hr s l.length (Nat.le_refl _))
  cases h : badAt (idsW l s l.length) k with
  | false => rfl
  | true =>
    exfalso
    simp only [badAt, Bool.and_eq_true, decide_eq_true_eq] at h
    have := hp (k - 1) k (by omega) hk (by omega)
    rw [List.getD_eq_getElem?_getD, List.getD_eq_getElem?_getD, List.getElem?_eq_getElem hk, List.getElem?_eq_getElem (show k - 1 < _ by omega)] at h
    simp only [Option.getD_some] at h
    omega
theorem idx_of {l : List Rc} (hr : rightR l = true) (j : Nat) (hj : j < l.length) : idxR l (l.getD j (0, 0)).1 = (j : Int) := by
  have := idxR_eq hr (l.getD j (0, 0)).1 j hj
  rw [beq_self_eq_true] at this
  exact of_decide_eq_true this.symm
theorem ids_nf {l : List Rc} (hr : rightR l = true) (s : Nat) : nfC l (idsW l s l.length) = false := by
  refine any_none fun k hk => ?_
  obtain ⟨j, h1, h2⟩ := ids_mem l s l.length ((idsW l s l.length).getD k 0) (by
    rw [List.getD_eq_getElem?_getD, List.getElem?_eq_getElem hk]
    exact List.getElem_mem hk)
  rw [h2, idx_of hr j h1]
  simp only [decide_eq_false_iff_not]
  omega
theorem sumC_app (l : List Rc) (L M : List Int) : ∀ k, k ≤ L.length → sumC l (L ++ M) k = sumC l L k := by
  intro k
  induction k with
  | zero => intro _; rfl
  | succ k ih =>
    intro hk
    rw [sumC, sumC, ih (by omega)]
    have : (L ++ M).getD k 0 = L.getD k 0 := by
      rw [List.getD_eq_getElem?_getD, List.getD_eq_getElem?_getD, List.getElem?_append_left (by omega)]
    rw [this]
theorem ids_sum {l : List Rc} (hr : rightR l = true) (s : Nat) : ∀ k, k ≤ l.length → sumC l (idsW l s k) (idsW l s k).length = sumW l s k := by
  intro k
  induction k with
  | zero => intro _; rfl
  | succ k ih =>
    intro hk
    rw [idsW, sumW]
    split
    · rw [List.length_append, List.length_singleton, sumC, sumC_app l _ _ _ (Nat.le_refl _), ih (by omega)]
      have : (idsW l s k ++ [(l.getD k (0, 0)).1]).getD (idsW l s k).length 0 = (l.getD k (0, 0)).1 := by simp
      rw [this, idx_of hr k (by omega), Int.toNat_natCast]
    · exact ih (by omega)
theorem verR_ids {l : List Rc} {g t : Int} (ha : askR l g t = 0) (s : Nat) : verR l g t (idsW l s l.length) = if hitW l g t s = true then 0 else 14 := by
  have hr := ask_right ha
  rw [verR, if_neg (by simp [ha]), if_neg (by rw [ids_asc hr s]; decide), if_neg (by rw [ids_nf hr s]; decide), ids_sum hr s l.length (Nat.le_refl _)]
  have e : decide (absR (IntKind.i64.wrap (sumW l s l.length - g)) > t) = !(hitW l g t s) := by
    unfold hitW difW
    rw [Bool.eq_iff_iff]
    simp only [decide_eq_true_eq, Bool.not_eq_true', decide_eq_false_iff_not]
    omega
  rw [e]
  cases hitW l g t s <;> rfl
/-- What explains a gap is right; what has fewer records does not explain it. -/
theorem few_set {l : List Rc} {g t : Int} (ha : askR l g t = 0) (he : (exA l g t).2 = 0) : verR l g t (exA l g t).1 = 0 ∧ (exA l g t).1.length ≤ l.length ∧
    (∀ i, i < (exA l g t).1.length → verR l g t ((exA l g t).1.eraseIdx i) = 14) ∧ (1 < (exA l g t).1.length → ∀ j, j < l.length → verR l g t [(l.getD j (0, 0)).1] = 14) := by
  have hf := found_near (t := t) ha
  have hx := exA_ok ha
  by_cases hn : nearF l g (2 ^ l.length) ≤ t
  · rw [if_pos hn] at hx
    have hf2 : (exS l g t (2 ^ l.length)).2 = true := hf.trans (by simpa using hn)
    rw [hx]
    simp only
    obtain ⟨s, h1, h2, h3⟩ := exS_mem l g t _ hf2
    have small : ∀ s', s' < 2 ^ l.length → (idsW l s' l.length).length < (exS l g t (2 ^ l.length)).1.length → verR l g t (idsW l s' l.length) = 14 := by
      intro s' h4 h5
      rw [verR_ids ha]
      cases hh : hitW l g t s' with
      | false => rfl
      | true =>
        have := (exS_min l g t _ s' h4 hh).2
        omega
    refine ⟨by rw [h3, verR_ids ha, h2]; rfl, exS_len l g t _, fun i hi => ?_, fun h4 j hj => ?_⟩
    · obtain ⟨s', h5, h6⟩ := sub_set l s l.length ((exS l g t (2 ^ l.length)).1.eraseIdx i) (by rw [h3]; exact List.eraseIdx_sublist _ _)
      rw [← h6]
      refine small s' h5 ?_
      rw [h6, List.length_eraseIdx, if_pos hi]
      omega
    · have e := one_set l j l.length
      rw [if_pos hj] at e
      rw [← e]
      refine small (2 ^ j) (Nat.pow_lt_pow_right (by decide) hj) ?_
      rw [e]
      exact h4
  · rw [if_neg hn] at hx
    rw [hx] at he
    cases he
end Go.Proofs.Ytpoalimbjeehkaa
/- Chapter 38: what explains a gap explains it with the fewest records. -/
set_option linter.unusedVariables false
set_option linter.unusedSimpArgs false
set_option maxRecDepth 8000
set_option maxHeartbeats 2000000
namespace Go.Proofs.Ytpoalimbjeehkaa
open Go.Sx Go.RowKit
theorem GapFewest_any (A : Option Addr) (c : Nat) (l : List Rc) (g t : Int) (w : World) (hl : RdRow w A l.length 2 (elR l)) :
    Calls Try.prog 8 #[.slice A l.length c, .agg #[I g, I t]] w fun e w' => e = .returned (.bool true) ∧ Below w.heap.size w w' := by
  refine enterPlain tfine Try.func8 rfl 83 Try.ntmps8 [.c (.inp 1000 A l.length c), .agg [.k (I g), .k (I t)]] [⟨1000, A, 2, l.length, elR l⟩] rfl rfl ⟨hl, trivial⟩ ⟨.inl ⟨rfl, rfl, rfl⟩, ⟨trivial, trivial, trivial⟩, trivial⟩ ?_
  refine G.seqR tfine rfl trivial ?_
  refine G.seq ?_
  refine G.seqC tfine rfl trivial ?_
  refine GO.callPlain (v := .bool true) rfl rfl rfl rfl (fun args w => Try.call10 args w) (fun ρ w hs hok => awakeG_any w) ?_
  refine GO.fin tfine rfl trivial ?_
  refine G.cond_false rfl ?_
  refine G.skip ?_
  refine G.seq ?_
  refine G.seqR tfine rfl trivial ?_
  refine G.cond (b := decide ((l.length : Int) > 8)) rfl (fun h => ?_) (fun h => ?_)
  · refine G.seqR tfine rfl trivial ?_
    exact G.ret (endK.ret rfl rfl)
  have hl8 : l.length ≤ 8 := by have := of_decide_eq_false h; omega
  have h8 : l.length ≤ 8 ∨ 14 < l.length := .inl hl8
  have hm : l.length ≤ 1000000 := by omega
  refine G.skip ?_
  refine G.seqDraw hmix [0, 1, 0, 4, 0, 16, 63, 127, 255, 255, 511, 2047] [(1, 800), (1, 850), (6, 801), (6, 851)] rfl rfl rfl ?_
  refine GD.more tfine 0 rfl rfl (by first | trivial | simp [AllP]) ?_
  refine GD.callAns [.c (.r l.length 2 (elR l))] [800] 1 rfl rfl rfl rfl rfl ⟨rfl, rfl, rfl, trivial⟩ rfl (fun args w => Try.call13 args w) (fun m1 hle ρ w hs hok => cloneRc_any A c l w (hs.row (cap := c) (hle.at rfl) (hok _ List.mem_cons_self)) hm) ?_
  refine GD.more tfine 2 rfl rfl (by first | trivial | simp [AllP]) ?_
  refine GD.callAns [.c (.r (exA l g t).1.length 1 (elI (exA l g t).1)), .c (.p (I (exA l g t).2))] [801] 6 rfl rfl rfl rfl rfl ⟨rfl, rfl, rfl, trivial⟩ rfl (fun args w => Try.call15 args w) (fun m1 hle ρ w hs hok => explain_any _ _ l g t w (hs.rowR (hle.at rfl) (hok _ List.mem_cons_self) (Nat.le_refl _)) h8) ?_
  refine GD.fin tfine 7 rfl rfl trivial ?_
  refine G.seq ?_
  refine G.seqR tfine rfl trivial ?_
  refine G.cond (b := (exA l g t).2 != 0) rfl (fun h2 => ?_) (fun h2 => ?_)
  · refine G.seqR tfine rfl trivial ?_
    refine G.ret (endK.ret rfl ?_)
    have e : (exA l g t).1 = [] := by
      by_cases ha : askR l g t = 0
      · rw [exA_ok ha] at h2 ⊢
        split
        · rename_i h3; rw [if_pos h3] at h2; simp at h2
        · rfl
      · rw [exA_err ha]
    rw [e]
    rfl
  have he : (exA l g t).2 = 0 := by simpa using h2
  have ha : askR l g t = 0 := by
    refine Decidable.byContradiction fun hc => ?_
    rw [exA_err hc] at he
    exact hc he
  obtain ⟨q1, q2, q3, q4⟩ := few_set ha he
  obtain ⟨a, hA⟩ : ∃ a, a = (exA l g t).1 := ⟨_, rfl⟩
  rw [← hA] at q1 q2 q3 q4 ⊢
  refine G.skip ?_
  refine G.seq ?_
  refine G.seqDraw hmix [0, 1, 0, 4, 0, 16, 0, 67, 255, 511] [(1, 802), (1, 852), (7, 803), (7, 853)] rfl rfl rfl ?_
  refine GD.more tfine 0 rfl rfl (by first | trivial | simp [AllP]) ?_
  refine GD.callAns [.c (.r l.length 2 (elR l))] [802] 1 rfl rfl rfl rfl rfl ⟨rfl, rfl, rfl, trivial⟩ rfl (fun args w => Try.call13 args w) (fun m1 hle ρ w hs hok => cloneRc_any A c l w (hs.row (cap := c) (hle.at rfl) (hok _ List.mem_cons_self)) hm) ?_
  refine GD.more tfine 2 rfl rfl (by first | trivial | simp [AllP]) ?_
  refine GD.callAns [.c (.r a.length 1 (elI a))] [803] 7 rfl rfl rfl rfl rfl ⟨rfl, rfl, rfl, trivial⟩ rfl (fun args w => Try.call19 args w) (fun m1 hle ρ w hs hok => cloneIs_any _ _ a w (hs.rowR (hle.at rfl) (hok _ List.mem_cons_self) (Nat.le_refl _)) (by omega)) ?_
  refine GD.call (v := I 0) 8 rfl rfl rfl rfl rfl (fun args w => Try.call18 args w) (fun m1 hle ρ w hs hok => by
    have := verify_any (rowAd ρ 802) (rowAd ρ 803) (ρ 852).1 (ρ 853).1 l g t a w (hs.rowR (hle.at rfl) (hok _ List.mem_cons_self) (Nat.le_refl _)) (hs.rowR (hle.at rfl) (hok _ (List.mem_cons_of_mem _ (List.mem_cons_of_mem _ (List.mem_cons_of_mem _ List.mem_cons_self)))) (Nat.le_refl _)) (by omega)
    rw [q1] at this
    exact this) ?_
  refine GD.fin tfine 9 rfl rfl trivial ?_
  refine G.cond_false rfl ?_
  refine G.skip ?_
  refine G.seq ?_
  refine G.seqR tfine rfl trivial ?_
  refine G.block (G.loop (fun k : Nat => St.of [(0, .v (.c (.inp 1000 A l.length c))), (3, .v (.c (.ptr 3 0 1 0))), (5, .v (.c (.row 801 a.length w.heap.size))), (41, .v (.c (.k (I a.length)))), (42, .v (.c (.k (I k))))] [(3, .arr 23 1 2 (fun i => ([I g, I t].drop (i * 1)).take 1) 0), (801, .ro 1 a.length (elI a)), (851, .ro 0 0 fun _ => []), (1000, .ro 2 l.length (elR l))])
    (fun k => k ≤ a.length) (fun k => a.length - k) 0 (Nat.zero_le _) (St.le_of rfl ⟨⟨_, rfl, Blk.le_refl _⟩, ⟨_, rfl, Blk.le_refl _⟩, ⟨_, rfl, Blk.le_refl _⟩, ⟨_, rfl, Blk.le_refl _⟩, trivial⟩ ⟨rfl, rfl, rfl, rfl, rfl, trivial⟩) ?_)
  rintro k hk
  refine G.seqR tfine rfl trivial ?_
  refine G.seq ?_
  refine G.cond (b := decide ((k : Int) < (a.length : Int))) rfl (fun h3 => ?_) (fun h3 => ?_)
  · have h3 := of_decide_eq_true h3
    have hlt : k < a.length := by omega
    refine G.skip ?_
    refine G.seq ?_
    refine G.block ?_
    refine G.seqR tfine rfl trivial ?_
    refine G.seqDraw hmix [0, 1, 0, 4, 0, 16, 0, 67, 0, 0, 512, 1987, 4095, 8191] [(1, 804), (1, 854), (7, 805), (7, 855), (11, 805)] rfl rfl rfl ?_
    refine GD.more tfine 0 rfl rfl (by first | trivial | simp [AllP]) ?_
    refine GD.callAns [.c (.r l.length 2 (elR l))] [804] 1 rfl rfl rfl rfl rfl ⟨rfl, rfl, rfl, trivial⟩ rfl (fun args w => Try.call13 args w) (fun m1 hle ρ w hs hok => cloneRc_any A c l w (hs.row (cap := c) (hle.at rfl) (hok _ List.mem_cons_self)) hm) ?_
    refine GD.more tfine 2 rfl rfl (by first | trivial | simp [AllP]) ?_
    refine GD.callOwnR 805 3 a.length 1 (elI a) 7 rfl rfl rfl rfl rfl rfl rfl rfl rfl (fun args w => Try.call19 args w) (fun m1 hle ρ w hs hok => cloneIO_any _ _ a w (hs.rowR (hle.at rfl) (hok _ List.mem_cons_self) (Nat.le_refl _)) (by omega) (by omega)) ?_
    refine GD.more tfine 8 rfl rfl (by first | trivial | simp [AllP]) ?_
    rw [IntWalk.i64_in ((k : Int) + 1) (by omega)]
    refine GD.callTurnR 805 3 a.length (a.length - 1) 1 w.heap.size (elI a) (delF (elI a) k) 11 rfl rfl rfl rfl rfl rfl List.mem_cons_self (Nat.sub_le _ _) rfl (fun args w => Try.call26 args w) (fun m1 hle ρ w1 hs hok => ?_) ?_
    · have o := hok _ List.mem_cons_self
      have e := hs.rowAd (hle.at rfl) o (by omega)
      have := deleteIs_any (ρ 805).1 a.length (ρ 855).1 k (elI a) w1 (hs.ownA (hle.at rfl)) (by omega) o.2.2.2 (fun q hq u hu => by simp [elI] at hu; subst hu; rfl) (by omega)
      have e2 : (List.map (AV.conc ρ) [AV.c (.row 805 a.length w.heap.size), AV.c (.k (I k)), AV.c (.k (I ((k : Int) + 1)))] ++ List.map (Cap.conc ρ) []).toArray = #[.slice (some ⟨(ρ 805).1, 0, none⟩) a.length (ρ 855).1, I k, I ((k : Int) + 1)] := by
        simp [AV.conc, AC.conc, e]
      have e3 : AC.conc ρ (.row 805 (a.length - 1) w.heap.size) = .slice (some ⟨(ρ 805).1, 0, none⟩) (a.length - 1) (ρ 855).1 := by
        simp [AC.conc, e]
      rw [← e2, ← e3] at this
      exact this
    refine GD.call (v := I 14) 12 rfl rfl rfl rfl rfl (fun args w => Try.call18 args w) (fun m1 hle ρ w1 hs hok => ?_) ?_
    · have hll : (a.eraseIdx k).length = a.length - 1 := by rw [List.length_eraseIdx, if_pos hlt]
      have hrd := hs.rowA (hle.at rfl) (hok _ (List.mem_cons_of_mem _ (List.mem_cons_of_mem _ (List.mem_cons_of_mem _ List.mem_cons_self)))) (Nat.le_refl _)
      have hr2 : RdRow w1 (rowAd ρ 805) (a.eraseIdx k).length 1 (elI (a.eraseIdx k)) := by
        rw [hll]
        exact hrd.congr fun q hq => elI_erase _ _ _ hq hlt
      have := verify_any (rowAd ρ 804) (rowAd ρ 805) (ρ 854).1 (ρ 855).1 l g t (a.eraseIdx k) w1 (hs.rowR (hle.at rfl) (hok _ List.mem_cons_self) (Nat.le_refl _)) hr2 (by omega)
      rw [q3 k hlt, hll] at this
      exact this
    refine GD.fin tfine 13 rfl rfl trivial ?_
    refine G.cond_false rfl ?_
    refine G.skip ?_
    refine G.reg tfine rfl trivial ?_
    rw [IntWalk.i64_in ((k : Int) + 1) (by omega)]
    exact ⟨k + 1, hlt, (by show a.length - (k + 1) < a.length - k; omega), St.le_of rfl ⟨⟨_, rfl, Blk.le_refl _⟩, ⟨_, rfl, Blk.le_refl _⟩, ⟨_, rfl, Blk.le_refl _⟩, ⟨_, rfl, Blk.le_refl _⟩, trivial⟩ ⟨rfl, rfl, rfl, rfl, by simp [up, I], trivial⟩⟩
  refine G.exit ?_
  refine G.seq ?_
  refine G.seqR tfine rfl trivial ?_
  refine G.block (G.loop (fun k : Nat => St.of [(0, .v (.c (.inp 1000 A l.length c))), (3, .v (.c (.ptr 3 0 1 0))), (5, .v (.c (.row 801 a.length w.heap.size))), (60, .v (.c (.inp 1000 A l.length c))), (61, .v (.c (.k (I l.length)))), (62, .v (.c (.k (I k))))] [(3, .arr 23 1 2 (fun i => ([I g, I t].drop (i * 1)).take 1) 0), (801, .ro 1 a.length (elI a)), (851, .ro 0 0 fun _ => []), (1000, .ro 2 l.length (elR l))])
    (fun k => k ≤ l.length) (fun k => l.length - k) 0 (Nat.zero_le _) (St.le_of rfl ⟨⟨_, rfl, Blk.le_refl _⟩, ⟨_, rfl, Blk.le_refl _⟩, ⟨_, rfl, Blk.le_refl _⟩, ⟨_, rfl, Blk.le_refl _⟩, trivial⟩ ⟨rfl, rfl, rfl, rfl, rfl, rfl, trivial⟩) ?_)
  rintro k hk
  refine G.seqR tfine rfl trivial ?_
  refine G.seq ?_
  refine G.cond (b := decide ((k : Int) < (l.length : Int))) rfl (fun h3 => ?_) (fun h3 => ?_)
  rotate_left
  · refine G.exit ?_
    refine G.seqR tfine rfl trivial ?_
    exact G.ret (endK.ret rfl rfl)
  have h3 := of_decide_eq_true h3
  have hlt : k < l.length := by omega
  refine G.skip ?_
  refine G.seq ?_
  refine G.block ?_
  refine G.seqR tfine rfl ⟨by simpa using hlt, by omega, by omega, trivial⟩ ?_
  rw [Int.toNat_natCast]
  by_cases hlen : 1 < a.length
  · have hd1 : decide ((a.length : Int) > 1) = true := by simp only [decide_eq_true_eq]; omega
    have q5 := q4 hlen k hlt
    refine G.seqDraw hmix [0, 1, 3, 7, 15, 31, 15, 79, 15, 271, 15, 1039, 3087, 8191, 16383, 32767] [(5, 806), (5, 856), (12, 78)] rfl rfl rfl ?_
    refine GD.more tfine 0 rfl rfl ?_ ?_
    · first | trivial | (simp [AllP, condB]; done) | (simp only [AllP]; and_intros <;> first | trivial | decide | omega) | (simp [AllP, condB]; intros; and_intros <;> first | assumption | omega) | (simp [AllP, condB]; intros; simp_all; done) | (simp [AllP, condB]; intros; simp_all; omega) | (simp [AllP, condB]; omega)
    refine GD.callAnsT [.c (.r l.length 2 (elR l))] [806] 5 rfl (by simp only [condB]; omega) rfl rfl rfl (by first | exact trivial | exact ⟨id, trivial⟩ | exact ⟨id, id, trivial⟩ | exact ⟨id, id, id, trivial⟩ | exact ⟨id, id, id, id, trivial⟩) rfl rfl ⟨rfl, rfl, rfl, trivial⟩ rfl (fun args w => Try.call13 args w) rfl (fun m' hle ρ w hs hok => cloneRc_any A c l w (hs.row (cap := c) (hle.at rfl) (hok _ List.mem_cons_self)) hm) ?_
    refine GD.more tfine 6 rfl rfl ?_ ?_
    · first | trivial | (simp [AllP, condB]; done) | (simp only [AllP]; and_intros <;> first | trivial | decide | omega) | (simp [AllP, condB]; intros; and_intros <;> first | assumption | omega) | (simp [AllP, condB]; intros; simp_all; done) | (simp [AllP, condB]; intros; simp_all; omega) | (simp [AllP, condB]; omega)
    refine GD.opT tfine 12 rfl (by simp only [condB]; omega) rfl rfl (by first | exact trivial | exact ⟨id, trivial⟩ | exact ⟨id, id, trivial⟩ | exact ⟨id, id, id, trivial⟩ | exact ⟨id, id, id, id, trivial⟩) rfl rfl trivial rfl rfl ?_
    refine GD.callGuard (I 14) 13 rfl rfl rfl rfl (by first | exact trivial | exact ⟨id, trivial⟩ | exact ⟨id, id, trivial⟩ | exact ⟨id, id, id, trivial⟩ | exact ⟨id, id, id, id, trivial⟩) rfl rfl (fun args w => Try.call18 args w) rfl (fun _ m' hle ρ w1 hs hok => ?_) ?_
    · have := verify_any (rowAd ρ 806) (some ⟨(ρ 78).1, (ρ 78).2 + 0 * 1, none⟩) (ρ 856).1 1 l g t [(l.getD k (0, 0)).1] w1 (hs.rowR (hle.at rfl) (hok _ List.mem_cons_self) (Nat.le_refl _)) (RdRow.congr (hs.rdVar (x := 78) (ty := 3) (vs := [I (l.getD k (0, 0)).1]) (sz := 1) (hle.at rfl) 0 1 (Nat.le_refl _)) fun i hi => by match i, hi with | 0, _ => rfl) (show 1 ≤ 1000 by decide)
      rw [q5] at this
      exact this
    refine GD.fin tfine 14 rfl rfl ?_ ?_
    · first | trivial | (simp [AllP, condB]; done) | (simp only [AllP]; and_intros <;> first | trivial | decide | omega) | (simp [AllP, condB]; intros; and_intros <;> first | assumption | omega) | (simp [AllP, condB]; intros; simp_all; done) | (simp [AllP, condB]; intros; simp_all; omega) | (simp [AllP, condB]; omega)
    refine G.cond (b := decide ((a.length : Int) > 1) && ((14 : Int) != 14)) rfl (fun h5 => ?_) (fun h5 => ?_)
    · simp at h5
    refine G.skip ?_
    refine G.reg tfine rfl trivial ?_
    rw [IntWalk.i64_in ((k : Int) + 1) (by omega)]
    exact ⟨k + 1, hlt, (by show l.length - (k + 1) < l.length - k; omega), St.le_of rfl ⟨⟨_, rfl, Blk.le_refl _⟩, ⟨_, rfl, Blk.le_refl _⟩, ⟨_, rfl, Blk.le_refl _⟩, ⟨_, rfl, Blk.le_refl _⟩, trivial⟩ ⟨rfl, rfl, rfl, rfl, rfl, by simp [up, I], trivial⟩⟩
  have hd0 : decide ((a.length : Int) > 1) = false := by simp only [decide_eq_false_iff_not]; omega
  refine G.seqDraw hmix [0, 1, 3, 7, 15, 31, 15, 79, 15, 271, 15, 1039, 3087, 8191, 16383, 32767] [] rfl rfl rfl ?_
  refine GD.more tfine 0 rfl rfl ?_ ?_
  · first | trivial | (simp [AllP, condB]; done) | (simp only [AllP]; and_intros <;> first | trivial | decide | omega) | (simp [AllP, condB]; intros; and_intros <;> first | assumption | omega) | (simp [AllP, condB]; intros; simp_all; done) | (simp [AllP, condB]; intros; simp_all; omega) | (simp [AllP, condB]; omega)
  refine GD.shut (cb := condB true (decide ((a.length : Int) > 1))) (.c (.k (.slice none 0 0))) 5 rfl (by rw [hd0]; rfl) rfl rfl rfl ?_
  refine GD.more tfine 6 rfl rfl ?_ ?_
  · first | trivial | (simp [AllP, condB]; done) | (simp only [AllP]; and_intros <;> first | trivial | decide | omega) | (simp [AllP, condB]; intros; and_intros <;> first | assumption | omega) | (simp [AllP, condB]; intros; simp_all; done) | (simp [AllP, condB]; intros; simp_all; omega) | (simp [AllP, condB]; omega)
  refine GD.shut (cb := condB true (decide ((a.length : Int) > 1))) (.c (.k (.slice none 0 0))) 12 rfl (by rw [hd0]; rfl) rfl rfl rfl ?_
  refine GD.shut (cb := condB true (decide ((a.length : Int) > 1))) (.c (.k (I 0))) 13 rfl (by rw [hd0]; rfl) rfl rfl rfl ?_
  refine GD.fin tfine 14 rfl rfl ?_ ?_
  · first | trivial | (simp [AllP, condB]; done) | (simp only [AllP]; and_intros <;> first | trivial | decide | omega) | (simp [AllP, condB]; intros; and_intros <;> first | assumption | omega) | (simp [AllP, condB]; intros; simp_all; done) | (simp [AllP, condB]; intros; simp_all; omega) | (simp [AllP, condB]; omega)
  refine G.cond (b := decide ((a.length : Int) > 1) && ((0 : Int) != 14)) rfl (fun h5 => ?_) (fun h5 => ?_)
  · rw [hd0] at h5; cases h5
  refine G.skip ?_
  refine G.reg tfine rfl trivial ?_
  rw [IntWalk.i64_in ((k : Int) + 1) (by omega)]
  exact ⟨k + 1, hlt, (by show l.length - (k + 1) < l.length - k; omega), St.le_of rfl ⟨⟨_, rfl, Blk.le_refl _⟩, ⟨_, rfl, Blk.le_refl _⟩, ⟨_, rfl, Blk.le_refl _⟩, ⟨_, rfl, Blk.le_refl _⟩, trivial⟩ ⟨rfl, rfl, rfl, rfl, rfl, by simp [up, I], trivial⟩⟩
end Go.Proofs.Ytpoalimbjeehkaa
/- Chapter 38: pairs of gaps and records; the code and the reference. -/
set_option linter.unusedVariables false
set_option linter.unusedSimpArgs false
set_option maxRecDepth 8000
set_option maxHeartbeats 2000000
namespace Go.Proofs.Ytpoalimbjeehkaa
open Go.Sx Go.RowKit
/-- Edges of gap i up to record k. -/
def edgR (Q l : List Rc) (t : Int) (i : Nat) : Nat → List EI
  | 0 => []
  | k + 1 => if decide (absR (IntKind.i64.wrap ((Q.getD i (0, 0)).2 - (l.getD k (0, 0)).2)) ≤ t) = true then edgR Q l t i k ++ [((i : Int), (k : Int))] else edgR Q l t i k
def edgS (Q l : List Rc) (t : Int) : Nat → List EI
  | 0 => []
  | i + 1 => edgS Q l t i ++ edgR Q l t i l.length
def edgU (Q l : List Rc) (t : Int) (i k : Nat) : List EI := edgS Q l t i ++ edgR Q l t i k
theorem edgU_zero (Q l : List Rc) (t : Int) (i : Nat) : edgU Q l t i 0 = edgS Q l t i := List.append_nil _
theorem edgU_end (Q l : List Rc) (t : Int) (i : Nat) : edgU Q l t i l.length = edgS Q l t (i + 1) := rfl
theorem edgU_on (Q l : List Rc) (t : Int) (i k : Nat) (h : decide (absR (IntKind.i64.wrap ((Q.getD i (0, 0)).2 - (l.getD k (0, 0)).2)) ≤ t) = true) : edgU Q l t i (k + 1) = edgU Q l t i k ++ [((i : Int), (k : Int))] := by
  unfold edgU
  rw [edgR, if_pos h, List.append_assoc]
theorem edgU_off (Q l : List Rc) (t : Int) (i k : Nat) (h : decide (absR (IntKind.i64.wrap ((Q.getD i (0, 0)).2 - (l.getD k (0, 0)).2)) ≤ t) = false) : edgU Q l t i (k + 1) = edgU Q l t i k := by
  unfold edgU
  rw [edgR, if_neg (by rw [h]; decide)]
theorem edgR_len (Q l : List Rc) (t : Int) (i k : Nat) : (edgR Q l t i k).length ≤ k := by
  induction k with
  | zero => exact Nat.le_refl _
  | succ k ih =>
    rw [edgR]
    split
    · rw [List.length_append, List.length_singleton]; omega
    · omega
theorem edgS_len {Q l : List Rc} (t : Int) (h : l.length ≤ 14) (i : Nat) : (edgS Q l t i).length ≤ i * 14 := by
  induction i with
  | zero => exact Nat.le_refl _
  | succ i ih =>
    have := edgR_len Q l t i l.length
    rw [edgS, List.length_append]
    omega
theorem edgU_len {Q l : List Rc} (t : Int) (h : l.length ≤ 14) (h2 : Q.length ≤ 14) {i k : Nat} (hi : i ≤ Q.length) (hk : k ≤ l.length) : (edgU Q l t i k).length ≤ 300 := by
  have a := edgS_len (Q := Q) t h i
  have b := edgR_len Q l t i k
  unfold edgU
  rw [List.length_append]
  omega
theorem elE_snoc (L : List EI) (x y : Int) (j : Nat) (hj : j < L.length + 1) : elN (elE L) L.length [I x, I y] j = elE (L ++ [(x, y)]) j := by
  unfold elN elE
  simp only [List.getD_eq_getElem?_getD]
  by_cases h : j < L.length
  · rw [show Nat.beq j L.length = false from Bool.eq_false_iff.mpr fun hc => by have := Nat.eq_of_beq_eq_true hc; omega, cond_false, List.getElem?_append_left h]
  · have : j = L.length := by omega
    subst this
    rw [show Nat.beq L.length L.length = true from Nat.beq_refl _, cond_true]
    simp
theorem right_len {l : List Rc} (h : rightR l = true) : l.length ≤ 14 := by
  refine Nat.not_lt.1 fun hc => ?_
  rw [rightR, chkR, if_pos (by simp only [decide_eq_true_eq]; omega)] at h
  cases h
def pairA (Q l : List Rc) (t : Int) : List EI × List Int × List Int × Int :=
  if (!(rightR Q) || !(rightR l)) = true then ([], [], [], 1) else if (decide (t < 0) || decide (t > 1099511627776)) = true then ([], [], [], 2) else
    (castL (matchA Q.length l.length (edgS Q l t Q.length)).1, castI (matchA Q.length l.length (edgS Q l t Q.length)).2.1, castI (matchA Q.length l.length (edgS Q l t Q.length)).2.2.1, (matchA Q.length l.length (edgS Q l t Q.length)).2.2.2)
def pairN (Q l : List Rc) (t : Int) : Int × Int :=
  if (!(rightR Q) || !(rightR l)) = true then (0, 1) else if (decide (t < 0) || decide (t > 1099511627776)) = true then (0, 2) else ((sizeA Q.length l.length (edgS Q l t Q.length)).1, (sizeA Q.length l.length (edgS Q l t Q.length)).2)
theorem pair_any (A B : Option Addr) (c d : Nat) (Q l : List Rc) (t : Int) (w : World) (hG : RdRow w A Q.length 2 (elR Q)) (hl : RdRow w B l.length 2 (elR l)) :
    Calls Try.prog 27 #[.slice A Q.length c, .slice B l.length d, I t] w fun e w' => Ans w w' [.agg [.r (pairA Q l t).1.length 2 (elE (pairA Q l t).1), .r (pairA Q l t).2.1.length 1 (elI (pairA Q l t).2.1), .r (pairA Q l t).2.2.1.length 1 (elI (pairA Q l t).2.2.1)], .c (.p (I (pairA Q l t).2.2.2))] e ∧ Below w.heap.size w w' := by
  refine enterAns tfine _ Try.func27 rfl 69 Try.ntmps27 [.c (.inp 1000 A Q.length c), .c (.inp 1001 B l.length d), .c (.k (I t))] [⟨1000, A, 2, Q.length, elR Q⟩, ⟨1001, B, 2, l.length, elR l⟩] rfl rfl ⟨hG, hl, trivial⟩ ⟨.inl ⟨rfl, rfl, rfl⟩, .inr ⟨nx rfl, .inl ⟨rfl, rfl, rfl⟩⟩, trivial, trivial⟩ ?_
  refine G.seqR tfine rfl trivial ?_
  refine G.seq ?_
  refine G.block ?_
  refine G.seqC tfine rfl trivial ?_
  refine GO.callPlain (v := .bool (rightR Q)) rfl rfl rfl rfl (fun args w => Try.call47 args w) (fun ρ w hs hok => right_any A c Q w (hs.row (cap := c) rfl (hok _ List.mem_cons_self))) ?_
  refine GO.more tfine rfl ?_ ?_
  · first | trivial | (simp [AllP, condB]; done) | (simp only [AllP]; and_intros <;> first | trivial | decide | omega) | (simp [AllP, condB]; intros; and_intros <;> first | assumption | omega) | (simp [AllP, condB]; intros; simp_all; done) | (simp [AllP, condB]; intros; simp_all; omega) | (simp [AllP, condB]; omega)
  refine GO.callGuard (.bool (rightR l)) rfl rfl rfl (by first | exact trivial | exact ⟨id, trivial⟩ | exact ⟨id, id, trivial⟩ | exact ⟨id, id, id, trivial⟩ | exact ⟨id, id, id, id, trivial⟩) rfl rfl (fun args w => Try.call47 args w) rfl (fun _ m' hle ρ w hs hok => right_any B d l w (hs.row (cap := d) (hle.at rfl) (hok _ List.mem_cons_self))) ?_
  refine GO.fin tfine rfl ?_ ?_
  · first | trivial | (simp [AllP, condB]; done) | (simp only [AllP]; and_intros <;> first | trivial | decide | omega) | (simp [AllP, condB]; intros; and_intros <;> first | assumption | omega) | (simp [AllP, condB]; intros; simp_all; done) | (simp [AllP, condB]; intros; simp_all; omega) | (simp [AllP, condB]; omega)
  refine G.cond (b := (!(rightR Q) || !(rightR l))) rfl (fun h => ?_) (fun h => ?_)
  · refine G.seqR tfine rfl trivial ?_
    rw [pairA, if_pos h]
    exact G.ret (endAns.ret ⟨⟨_, rfl, ⟨rfl, rfl, fun a h => by cases h⟩, ⟨rfl, rfl, fun a h => by cases h⟩, ⟨rfl, rfl, fun a h => by cases h⟩, trivial⟩, ⟨_, rfl, rfl⟩, trivial⟩)
  have hrG : rightR Q = true := by simp only [Bool.or_eq_false_iff, Bool.not_eq_false'] at h; exact h.1
  have hrl : rightR l = true := by simp only [Bool.or_eq_false_iff, Bool.not_eq_false'] at h; exact h.2
  have nG := right_len hrG
  have nl := right_len hrl
  refine G.seqR tfine rfl ?_ ?_
  · first | trivial | (simp [AllP, condB]; done) | (simp only [AllP]; and_intros <;> first | trivial | decide | omega) | (simp [AllP, condB]; intros; and_intros <;> first | assumption | omega) | (simp [AllP, condB]; intros; simp_all; done) | (simp [AllP, condB]; intros; simp_all; omega) | (simp [AllP, condB]; omega)
  refine G.cond (b := decide (t < 0) || decide (t > 1099511627776)) rfl (fun h1 => ?_) (fun h1 => ?_)
  · refine G.seqR tfine rfl trivial ?_
    rw [pairA, if_neg (fne h), if_pos h1]
    exact G.ret (endAns.ret ⟨⟨_, rfl, ⟨rfl, rfl, fun a h => by cases h⟩, ⟨rfl, rfl, fun a h => by cases h⟩, ⟨rfl, rfl, fun a h => by cases h⟩, trivial⟩, ⟨_, rfl, rfl⟩, trivial⟩)
  have heA : pairA Q l t = (castL (matchA Q.length l.length (edgS Q l t Q.length)).1, castI (matchA Q.length l.length (edgS Q l t Q.length)).2.1, castI (matchA Q.length l.length (edgS Q l t Q.length)).2.2.1, (matchA Q.length l.length (edgS Q l t Q.length)).2.2.2) := by
    rw [pairA, if_neg (fne h), if_neg (fne h1)]
  rw [heA]
  refine G.skip ?_
  refine G.seqR tfine rfl trivial ?_
  refine G.newNil 58 2 (elE []) rfl ?_
  refine G.seq ?_
  refine G.seqR tfine rfl trivial ?_
  refine G.block (G.loop (fun z : Nat × Nat => St.of [(0, .v (.c (.inp 1000 A Q.length c))), (1, .v (.c (.inp 1001 B l.length d))), (2, .v (.c (.k (I t)))), (6, .v (.c (.ptr 6 0 0 0))), (7, .v (.c (.k (I 0)))), (8, .v (.c (accV 58 2 (edgS Q l t z.1).length z.2))), (31, .v (.c (.inp 1000 A Q.length c))), (32, .v (.c (.k (I Q.length)))), (33, .v (.c (.k (I z.1))))] [(6, .var 47 [.k (.slice none 0 0), .k (.slice none 0 0), .k (.slice none 0 0)]), (58, accB 68 2 (edgS Q l t z.1).length z.2 (elE (edgS Q l t z.1))), (1000, .ro 2 Q.length (elR Q)), (1001, .ro 2 l.length (elR l))])
    (fun z => z.1 ≤ Q.length ∧ (edgS Q l t z.1).length ≤ z.2) (fun z => Q.length - z.1) (0, 0) ⟨Nat.zero_le _, Nat.le_refl _⟩ (St.le_of rfl ⟨⟨_, rfl, Blk.le_refl _⟩, ⟨_, rfl, Blk.le_refl _⟩, ⟨_, rfl, Blk.le_refl _⟩, ⟨_, rfl, Blk.le_refl _⟩, trivial⟩ ⟨rfl, rfl, rfl, rfl, rfl, rfl, rfl, rfl, rfl, trivial⟩) ?_)
  rintro ⟨i, cp⟩ ⟨hi, hcp⟩
  dsimp only at hi hcp ⊢
  refine G.seqR tfine rfl trivial ?_
  refine G.seq ?_
  refine G.cond (b := decide ((i : Int) < (Q.length : Int))) rfl (fun h2 => ?_) (fun h2 => ?_)
  rotate_left
  · have h2 := of_decide_eq_false h2
    have : i = Q.length := by omega
    subst this
    have hb := edgS_len (Q := Q) t nl Q.length
    refine G.exit ?_
    generalize hL : edgS Q l t Q.length = L at *
    rcases L with _ | ⟨x, L⟩
    · refine G.seqC tfine rfl trivial ?_
      refine GO.callAns [.agg [.r (castL (matchA Q.length l.length []).1).length 2 (elE (castL (matchA Q.length l.length []).1)), .r (castI (matchA Q.length l.length []).2.1).length 1 (elI (castI (matchA Q.length l.length []).2.1)), .r (castI (matchA Q.length l.length []).2.2.1).length 1 (elI (castI (matchA Q.length l.length []).2.2.1))], .c (.p (I (matchA Q.length l.length []).2.2.2))] [800, 801, 802] rfl rfl rfl rfl ⟨rfl, rfl, rfl, rfl, rfl, rfl, rfl, rfl, rfl, trivial⟩ (fun args w => Try.call48 args w) (fun ρ w hs hok => MatchI_any Q.length l.length none 0 [] w (fun h0 => absurd h0 (Nat.lt_irrefl 0)) (by decide)) ?_
      refine GO.fin tfine rfl trivial ?_
      exact G.ret (endAns.ret ⟨⟨_, rfl, ⟨rfl, Nat.le_refl _, _, _, rfl, Nat.le_refl _, fun i hi => rfl⟩, ⟨rfl, Nat.le_refl _, _, _, rfl, Nat.le_refl _, fun i hi => rfl⟩, ⟨rfl, Nat.le_refl _, _, _, rfl, Nat.le_refl _, fun i hi => rfl⟩, trivial⟩, ⟨_, rfl, rfl⟩, trivial⟩)
    · have hcp : L.length + 1 ≤ cp := hcp
      refine G.seqC tfine rfl trivial ?_
      refine GO.callAns [.agg [.r (castL (matchA Q.length l.length (x :: L)).1).length 2 (elE (castL (matchA Q.length l.length (x :: L)).1)), .r (castI (matchA Q.length l.length (x :: L)).2.1).length 1 (elI (castI (matchA Q.length l.length (x :: L)).2.1)), .r (castI (matchA Q.length l.length (x :: L)).2.2.1).length 1 (elI (castI (matchA Q.length l.length (x :: L)).2.2.1))], .c (.p (I (matchA Q.length l.length (x :: L)).2.2.2))] [800, 801, 802] rfl rfl rfl rfl ⟨rfl, rfl, rfl, rfl, rfl, rfl, rfl, rfl, rfl, trivial⟩ (fun args w => Try.call48 args w) (fun ρ w hs hok => ?_) ?_
      · have hrd : RdRow w (some ⟨(ρ 58).1, (ρ 58).2 + 0 * 2, none⟩) (x :: L).length 2 (elE (x :: L)) := (hs.rdArr (x := 58) rfl 0 (L.length + 1) (by omega)).congr fun q hq => by rw [Nat.zero_add]
        exact MatchI_any Q.length l.length (some ⟨(ρ 58).1, (ρ 58).2 + 0 * 2, none⟩) cp (x :: L) w hrd (by simp only [List.length_cons] at hb ⊢; omega)
      refine GO.fin tfine rfl trivial ?_
      exact G.ret (endAns.ret ⟨⟨_, rfl, ⟨rfl, Nat.le_refl _, _, _, rfl, Nat.le_refl _, fun i hi => rfl⟩, ⟨rfl, Nat.le_refl _, _, _, rfl, Nat.le_refl _, fun i hi => rfl⟩, ⟨rfl, Nat.le_refl _, _, _, rfl, Nat.le_refl _, fun i hi => rfl⟩, trivial⟩, ⟨_, rfl, rfl⟩, trivial⟩)
  have h2 := of_decide_eq_true h2
  have hlt : i < Q.length := by omega
  refine G.skip ?_
  refine G.seq ?_
  refine G.block ?_
  refine G.seqR tfine rfl ⟨by simpa using hlt, by omega, by omega, trivial⟩ ?_
  rw [Int.toNat_natCast]
  obtain ⟨a, ha⟩ : ∃ a, a = (Q.getD i (0, 0)).1 := ⟨_, rfl⟩
  obtain ⟨b, hb⟩ : ∃ b, b = (Q.getD i (0, 0)).2 := ⟨_, rfl⟩
  rw [← ha, ← hb]
  refine G.seqR tfine rfl trivial ?_
  refine G.block (G.loop (fun z : Nat × Nat => St.of [(0, .v (.c (.inp 1000 A Q.length c))), (1, .v (.c (.inp 1001 B l.length d))), (2, .v (.c (.k (I t)))), (6, .v (.c (.ptr 6 0 0 0))), (7, .v (.c (.k (I 0)))), (8, .v (.c (accV 58 2 (edgU Q l t i z.1).length z.2))), (9, .v (.c (.k (I i)))), (10, .v (.c (.ptr 10 0 0 0))), (31, .v (.c (.inp 1000 A Q.length c))), (32, .v (.c (.k (I Q.length)))), (33, .v (.c (.k (I i)))), (38, .v (.c (.inp 1001 B l.length d))), (39, .v (.c (.k (I l.length)))), (40, .v (.c (.k (I z.1))))] [(6, .var 47 [.k (.slice none 0 0), .k (.slice none 0 0), .k (.slice none 0 0)]), (10, .var 32 [.k (I a), .k (I b)]), (58, accB 68 2 (edgU Q l t i z.1).length z.2 (elE (edgU Q l t i z.1))), (1000, .ro 2 Q.length (elR Q)), (1001, .ro 2 l.length (elR l))])
    (fun z => z.1 ≤ l.length ∧ (edgU Q l t i z.1).length ≤ z.2) (fun z => l.length - z.1) (0, cp) ⟨Nat.zero_le _, by rw [edgU_zero]; exact hcp⟩ (by
      simp only []
      rw [edgU_zero]
      exact St.le_of (by generalize edgS Q l t i = q; cases q <;> rfl) ⟨⟨_, rfl, Blk.le_refl _⟩, ⟨_, rfl, Blk.le_refl _⟩, ⟨_, rfl, Blk.le_refl _⟩, ⟨_, rfl, Blk.le_refl _⟩, ⟨_, rfl, Blk.le_refl _⟩, trivial⟩ ⟨rfl, rfl, rfl, rfl, rfl, rfl, rfl, rfl, rfl, rfl, rfl, rfl, rfl, rfl, trivial⟩) ?_)
  rintro ⟨k, cp⟩ ⟨hk, hcp⟩
  dsimp only at hk hcp ⊢
  refine G.seqR tfine rfl trivial ?_
  refine G.seq ?_
  refine G.cond (b := decide ((k : Int) < (l.length : Int))) rfl (fun h3 => ?_) (fun h3 => ?_)
  rotate_left
  · have h3 := of_decide_eq_false h3
    have : k = l.length := by omega
    subst this
    refine G.exit ?_
    refine G.reg tfine rfl trivial ?_
    rw [IntWalk.i64_in ((i : Int) + 1) (by omega)]
    refine ⟨(i + 1, cp), ⟨hlt, hcp⟩, (by show Q.length - (i + 1) < Q.length - i; omega), ?_⟩
    simp only []
    rw [← edgU_end]
    exact St.le_of (by generalize edgU Q l t i l.length = q; cases q <;> rfl) ⟨⟨_, rfl, Blk.le_refl _⟩, ⟨_, rfl, Blk.le_refl _⟩, ⟨_, rfl, Blk.le_refl _⟩, ⟨_, rfl, Blk.le_refl _⟩, trivial⟩ ⟨rfl, rfl, rfl, rfl, rfl, rfl, rfl, rfl, by simp [up, I], trivial⟩
  have h3 := of_decide_eq_true h3
  have hltk : k < l.length := by omega
  have hlen := edgU_len (Q := Q) t nl nG hi hk
  refine G.skip ?_
  refine G.seq ?_
  refine G.block ?_
  refine G.seqR tfine rfl ⟨by simpa using hltk, by omega, by omega, trivial⟩ ?_
  rw [Int.toNat_natCast]
  refine G.seqC tfine rfl trivial ?_
  refine GO.callPlain (v := I (absR (IntKind.i64.wrap (b - (l.getD k (0, 0)).2)))) rfl rfl rfl rfl (fun args w => Try.call37 args w) (fun ρ w hs hok => size_any (IntKind.i64.wrap (b - (l.getD k (0, 0)).2)) w) ?_
  refine GO.fin tfine rfl trivial ?_
  refine G.cond (b := decide (absR (IntKind.i64.wrap (b - (l.getD k (0, 0)).2)) ≤ t)) rfl (fun h4 => ?_) (fun h4 => ?_)
  · rw [hb] at h4
    have e := edgU_on Q l t i k h4
    refine G.region_lit ?_
    refine GO.moveAny tfine rfl (.inl rfl) rfl rfl rfl ?_
    refine GO.more tfine rfl trivial ?_
    refine GO.appendAccB (n := (edgU Q l t i k).length) (c := cp) (el := elE (edgU Q l t i k)) [I i, I k] [(0, .v (.c (.inp 1000 A Q.length c))), (1, .v (.c (.inp 1001 B l.length d))), (2, .v (.c (.k (I t)))), (6, .v (.c (.ptr 6 0 0 0))), (7, .v (.c (.k (I 0)))), (9, .v (.c (.k (I i)))), (10, .v (.c (.ptr 10 0 0 0))), (31, .v (.c (.inp 1000 A Q.length c))), (32, .v (.c (.k (I Q.length)))), (33, .v (.c (.k (I i)))), (38, .v (.c (.inp 1001 B l.length d))), (39, .v (.c (.k (I l.length)))), (40, .v (.c (.k (I k))))] [(6, .var 47 [.k (.slice none 0 0), .k (.slice none 0 0), .k (.slice none 0 0)]), (10, .var 32 [.k (I a), .k (I b)]), (1000, .ro 2 Q.length (elR Q)), (1001, .ro 2 l.length (elR l))] apE rfl rfl rfl rfl rfl rfl rfl rfl rfl rfl (fun u hu => by simp at hu; rcases hu with rfl | rfl <;> rfl)
      (St.le_of rfl ⟨⟨_, rfl, Blk.le_refl _⟩, ⟨_, rfl, Blk.le_refl _⟩, ⟨_, rfl, Blk.le_refl _⟩, ⟨_, rfl, Blk.le_refl _⟩, trivial⟩ ⟨rfl, rfl, rfl, rfl, rfl, rfl, rfl, rfl, rfl, rfl, rfl, rfl, rfl, trivial⟩) (subM.fr ⟨rfl, nx rfl, rfl, nx rfl, rfl, nx rfl, rfl, nx rfl, trivial⟩) (fun k hk => rfl) (by unfold maxLen; omega) (by omega) fun c' hc' => ?_
    refine GO.fin tfine rfl trivial ?_
    refine G.reg tfine rfl trivial ?_
    rw [IntWalk.i64_in ((k : Int) + 1) (by omega)]
    refine ⟨(k + 1, c'), ⟨by simp only; omega, by simp only [e, List.length_append, List.length_cons, List.length_nil]; exact hc'⟩, (by show l.length - (k + 1) < l.length - k; omega), ?_⟩
    simp only [e, List.length_append, List.length_cons, List.length_nil]
    exact St.le_of rfl ⟨⟨_, rfl, Blk.le_refl _⟩, ⟨_, rfl, Blk.le_refl _⟩, ⟨_, rfl, rfl, rfl, Nat.le_refl _, fun j hj => (elE_snoc _ _ _ j hj).symm, Nat.le_refl _⟩, ⟨_, rfl, Blk.le_refl _⟩, ⟨_, rfl, Blk.le_refl _⟩, trivial⟩ ⟨rfl, rfl, rfl, rfl, rfl, rfl, rfl, rfl, rfl, rfl, rfl, rfl, rfl, by simp [up, I], trivial⟩
  rw [hb] at h4
  have e := edgU_off Q l t i k h4
  refine G.skip ?_
  refine G.reg tfine rfl trivial ?_
  rw [IntWalk.i64_in ((k : Int) + 1) (by omega)]
  refine ⟨(k + 1, cp), ⟨by simp only; omega, by simp only [e]; exact hcp⟩, (by show l.length - (k + 1) < l.length - k; omega), ?_⟩
  simp only [e]
  exact St.le_of (by generalize edgU Q l t i k = q; cases q <;> rfl) ⟨⟨_, rfl, Blk.le_refl _⟩, ⟨_, rfl, Blk.le_refl _⟩, ⟨_, rfl, Blk.le_refl _⟩, ⟨_, rfl, Blk.le_refl _⟩, ⟨_, rfl, Blk.le_refl _⟩, trivial⟩ ⟨rfl, rfl, rfl, rfl, rfl, rfl, rfl, rfl, rfl, rfl, rfl, rfl, rfl, by simp [up, I], trivial⟩
end Go.Proofs.Ytpoalimbjeehkaa
/- Chapter 38: pairs; the reference, and the law. -/
set_option linter.unusedVariables false
set_option linter.unusedSimpArgs false
set_option maxRecDepth 8000
set_option maxHeartbeats 2000000
namespace Go.Proofs.Ytpoalimbjeehkaa
open Go.Sx Go.RowKit
theorem refEdges_any (A B : Option Addr) (c d : Nat) (Q l : List Rc) (t : Int) (w : World) (hG : RdRow w A Q.length 2 (elR Q)) (hl : RdRow w B l.length 2 (elR l)) (nG : Q.length ≤ 14) (nl : l.length ≤ 14) :
    Calls Try.prog 30 #[.slice A Q.length c, .slice B l.length d, I t] w fun e w' => Ans w w' [.c (.r (edgS Q l t Q.length).length 2 (elE (edgS Q l t Q.length)))] e ∧ Below w.heap.size w w' := by
  refine enterAns tfine _ Try.func30 rfl 44 Try.ntmps30 [.c (.inp 1000 A Q.length c), .c (.inp 1001 B l.length d), .c (.k (I t))] [⟨1000, A, 2, Q.length, elR Q⟩, ⟨1001, B, 2, l.length, elR l⟩] rfl rfl ⟨hG, hl, trivial⟩ ⟨.inl ⟨rfl, rfl, rfl⟩, .inr ⟨nx rfl, .inl ⟨rfl, rfl, rfl⟩⟩, trivial, trivial⟩ ?_
  refine G.seqR tfine rfl trivial ?_
  refine G.seqC tfine rfl trivial ?_
  refine GO.emptySliceS tfine rfl rfl rfl rfl rfl rfl rfl fun A0 hA0 => ?_
  refine GO.fin tfine rfl trivial ?_
  refine G.newNil 42 2 (elE []) rfl ?_
  refine G.seq ?_
  refine G.seqR tfine rfl trivial ?_
  refine G.block (G.loop (fun z : Nat × Nat => St.of [(0, .v (.c (.inp 1000 A Q.length c))), (1, .v (.c (.inp 1001 B l.length d))), (2, .v (.c (.k (I t)))), (7, .v (.c (accVA A0 42 2 (edgS Q l t z.1).length z.2))), (8, .v (.c (.k (I z.1))))] [(42, accB 68 2 (edgS Q l t z.1).length z.2 (elE (edgS Q l t z.1))), (1000, .ro 2 Q.length (elR Q)), (1001, .ro 2 l.length (elR l))])
    (fun z => z.1 ≤ Q.length ∧ (edgS Q l t z.1).length ≤ z.2) (fun z => Q.length - z.1) (0, 0) ⟨Nat.zero_le _, Nat.le_refl _⟩ (St.le_of rfl ⟨⟨_, rfl, Blk.le_refl _⟩, ⟨_, rfl, Blk.le_refl _⟩, ⟨_, rfl, Blk.le_refl _⟩, trivial⟩ ⟨rfl, rfl, rfl, rfl, rfl, trivial⟩) ?_)
  rintro ⟨i, cp⟩ ⟨hi, hcp⟩
  dsimp only at hi hcp ⊢
  refine G.seq ?_
  refine G.seqR tfine rfl trivial ?_
  refine G.cond (b := decide ((i : Int) < (Q.length : Int))) rfl (fun h2 => ?_) (fun h2 => ?_)
  rotate_left
  · have h2 := of_decide_eq_false h2
    have : i = Q.length := by omega
    subst this
    refine G.exit ?_
    generalize hL : edgS Q l t Q.length = L at *
    rcases L with _ | ⟨x, L⟩
    · refine G.seqR tfine rfl trivial ?_
      exact G.ret (endAns.ret ⟨⟨_, rfl, rfl, rfl, hA0⟩, trivial⟩)
    · have hcp : L.length + 1 ≤ cp := hcp
      refine G.seqR tfine rfl trivial ?_
      exact G.ret (endAns.ret ⟨⟨_, rfl, hcp, rfl, rfl, rfl, (by simp only [List.length_cons]; omega), fun i hi => by rw [Nat.zero_add]⟩, trivial⟩)
  have h2 := of_decide_eq_true h2
  have hlt : i < Q.length := by omega
  refine G.skip ?_
  refine G.seq ?_
  refine G.block ?_
  refine G.seqR tfine rfl trivial ?_
  refine G.block (G.loop (fun z : Nat × Nat => St.of [(0, .v (.c (.inp 1000 A Q.length c))), (1, .v (.c (.inp 1001 B l.length d))), (2, .v (.c (.k (I t)))), (7, .v (.c (accVA A0 42 2 (edgU Q l t i z.1).length z.2))), (8, .v (.c (.k (I i)))), (9, .v (.c (.k (I z.1))))] [(42, accB 68 2 (edgU Q l t i z.1).length z.2 (elE (edgU Q l t i z.1))), (1000, .ro 2 Q.length (elR Q)), (1001, .ro 2 l.length (elR l))])
    (fun z => z.1 ≤ l.length ∧ (edgU Q l t i z.1).length ≤ z.2) (fun z => l.length - z.1) (0, cp) ⟨Nat.zero_le _, by rw [edgU_zero]; exact hcp⟩ (by
      simp only []
      rw [edgU_zero]
      exact St.le_of (by generalize edgS Q l t i = q; cases q <;> rfl) ⟨⟨_, rfl, Blk.le_refl _⟩, ⟨_, rfl, Blk.le_refl _⟩, ⟨_, rfl, Blk.le_refl _⟩, trivial⟩ ⟨rfl, rfl, rfl, rfl, rfl, rfl, trivial⟩) ?_)
  rintro ⟨k, cp⟩ ⟨hk, hcp⟩
  dsimp only at hk hcp ⊢
  refine G.seq ?_
  refine G.seqR tfine rfl trivial ?_
  refine G.cond (b := decide ((k : Int) < (l.length : Int))) rfl (fun h3 => ?_) (fun h3 => ?_)
  rotate_left
  · have h3 := of_decide_eq_false h3
    have : k = l.length := by omega
    subst this
    refine G.exit ?_
    refine G.reg tfine rfl trivial ?_
    rw [IntWalk.i64_in ((i : Int) + 1) (by omega)]
    refine ⟨(i + 1, cp), ⟨hlt, hcp⟩, (by show Q.length - (i + 1) < Q.length - i; omega), ?_⟩
    simp only []
    rw [← edgU_end]
    exact St.le_of (by generalize edgU Q l t i l.length = q; cases q <;> rfl) ⟨⟨_, rfl, Blk.le_refl _⟩, ⟨_, rfl, Blk.le_refl _⟩, ⟨_, rfl, Blk.le_refl _⟩, trivial⟩ ⟨rfl, rfl, rfl, rfl, by simp [up, I], trivial⟩
  have h3 := of_decide_eq_true h3
  have hltk : k < l.length := by omega
  have hlen := edgU_len (Q := Q) t nl nG hi hk
  refine G.skip ?_
  refine G.seq ?_
  refine G.block ?_
  refine G.seqDraw hmix [0, 0, 3, 7, 15, 0, 0, 96, 224, 480, 1023, 2047, 0, 8191] [] rfl rfl rfl ?_
  refine GD.more tfine 0 rfl rfl ⟨by simpa using hltk, by omega, by omega, by simpa using hlt, by omega, by omega, trivial⟩ ?_
  simp only [Int.toNat_natCast]
  refine GD.call (v := I (absR (IntKind.i64.wrap ((Q.getD i (0, 0)).2 - (l.getD k (0, 0)).2)))) 11 rfl rfl rfl rfl rfl (fun args w => Try.call41 args w) (fun m1 hle ρ w hs hok => refAbs_any (IntKind.i64.wrap ((Q.getD i (0, 0)).2 - (l.getD k (0, 0)).2)) w) ?_
  refine GD.fin tfine 12 rfl rfl trivial ?_
  refine G.cond (b := decide (absR (IntKind.i64.wrap ((Q.getD i (0, 0)).2 - (l.getD k (0, 0)).2)) ≤ t)) rfl (fun h4 => ?_) (fun h4 => ?_)
  · have e := edgU_on Q l t i k h4
    refine G.region_lit ?_
    refine GO.moveAny tfine rfl (.inl rfl) rfl rfl rfl ?_
    refine GO.more tfine rfl trivial ?_
    refine GO.appendAccAB (n := (edgU Q l t i k).length) (c := cp) (el := elE (edgU Q l t i k)) [I i, I k] [(0, .v (.c (.inp 1000 A Q.length c))), (1, .v (.c (.inp 1001 B l.length d))), (2, .v (.c (.k (I t)))), (8, .v (.c (.k (I i)))), (9, .v (.c (.k (I k))))] [(1000, .ro 2 Q.length (elR Q)), (1001, .ro 2 l.length (elR l))] apE rfl rfl rfl rfl rfl rfl rfl rfl rfl rfl (fun u hu => by simp at hu; rcases hu with rfl | rfl <;> rfl)
      (St.le_of rfl ⟨⟨_, rfl, Blk.le_refl _⟩, ⟨_, rfl, Blk.le_refl _⟩, trivial⟩ ⟨rfl, rfl, rfl, rfl, rfl, trivial⟩) (subM.fr ⟨rfl, nx rfl, rfl, nx rfl, trivial⟩) (fun k hk => rfl) (by unfold maxLen; omega) (by omega) fun c' hc' => ?_
    refine GO.fin tfine rfl trivial ?_
    refine G.reg tfine rfl trivial ?_
    rw [IntWalk.i64_in ((k : Int) + 1) (by omega)]
    refine ⟨(k + 1, c'), ⟨by simp only; omega, by simp only [e, List.length_append, List.length_cons, List.length_nil]; exact hc'⟩, (by show l.length - (k + 1) < l.length - k; omega), ?_⟩
    simp only [e, List.length_append, List.length_cons, List.length_nil]
    exact St.le_of rfl ⟨⟨_, rfl, rfl, rfl, Nat.le_refl _, fun j hj => (elE_snoc _ _ _ j hj).symm, Nat.le_refl _⟩, ⟨_, rfl, Blk.le_refl _⟩, ⟨_, rfl, Blk.le_refl _⟩, trivial⟩ ⟨rfl, rfl, rfl, rfl, rfl, by simp [up, I], trivial⟩
  have e := edgU_off Q l t i k h4
  refine G.skip ?_
  refine G.reg tfine rfl trivial ?_
  rw [IntWalk.i64_in ((k : Int) + 1) (by omega)]
  refine ⟨(k + 1, cp), ⟨by simp only; omega, by simp only [e]; exact hcp⟩, (by show l.length - (k + 1) < l.length - k; omega), ?_⟩
  simp only [e]
  exact St.le_of (by generalize edgU Q l t i k = q; cases q <;> rfl) ⟨⟨_, rfl, Blk.le_refl _⟩, ⟨_, rfl, Blk.le_refl _⟩, ⟨_, rfl, Blk.le_refl _⟩, trivial⟩ ⟨rfl, rfl, rfl, rfl, rfl, by simp [up, I], trivial⟩
theorem refPaired_any (A B : Option Addr) (c d : Nat) (Q l : List Rc) (t : Int) (w : World) (hG : RdRow w A Q.length 2 (elR Q)) (hl : RdRow w B l.length 2 (elR l)) :
    Calls Try.prog 28 #[.slice A Q.length c, .slice B l.length d, I t] w fun e w' => e = .returned (.tuple #[I (pairN Q l t).1, I (pairN Q l t).2]) ∧ Below w.heap.size w w' := by
  refine enterPlain tfine Try.func28 rfl 33 Try.ntmps28 [.c (.inp 1000 A Q.length c), .c (.inp 1001 B l.length d), .c (.k (I t))] [⟨1000, A, 2, Q.length, elR Q⟩, ⟨1001, B, 2, l.length, elR l⟩] rfl rfl ⟨hG, hl, trivial⟩ ⟨.inl ⟨rfl, rfl, rfl⟩, .inr ⟨nx rfl, .inl ⟨rfl, rfl, rfl⟩⟩, trivial, trivial⟩ ?_
  refine G.seqR tfine rfl trivial ?_
  refine G.seq ?_
  refine G.seqC tfine rfl trivial ?_
  refine GO.callPlain (v := .bool (rightR Q)) rfl rfl rfl rfl (fun args w => Try.call49 args w) (fun ρ w hs hok => refRight_any A c Q w (hs.row (cap := c) rfl (hok _ List.mem_cons_self))) ?_
  refine GO.more tfine rfl ?_ ?_
  · first | trivial | (simp [AllP, condB]; done) | (simp only [AllP]; and_intros <;> first | trivial | decide | omega) | (simp [AllP, condB]; intros; and_intros <;> first | assumption | omega) | (simp [AllP, condB]; intros; simp_all; done) | (simp [AllP, condB]; intros; simp_all; omega) | (simp [AllP, condB]; omega)
  refine GO.callGuard (.bool (rightR l)) rfl rfl rfl (by first | exact trivial | exact ⟨id, trivial⟩ | exact ⟨id, id, trivial⟩ | exact ⟨id, id, id, trivial⟩ | exact ⟨id, id, id, id, trivial⟩) rfl rfl (fun args w => Try.call49 args w) rfl (fun _ m' hle ρ w hs hok => refRight_any B d l w (hs.row (cap := d) (hle.at rfl) (hok _ List.mem_cons_self))) ?_
  refine GO.fin tfine rfl ?_ ?_
  · first | trivial | (simp [AllP, condB]; done) | (simp only [AllP]; and_intros <;> first | trivial | decide | omega) | (simp [AllP, condB]; intros; and_intros <;> first | assumption | omega) | (simp [AllP, condB]; intros; simp_all; done) | (simp [AllP, condB]; intros; simp_all; omega) | (simp [AllP, condB]; omega)
  refine G.cond (b := (!(rightR Q) || !(rightR l))) rfl (fun h => ?_) (fun h => ?_)
  · refine G.seqR tfine rfl trivial ?_
    refine G.ret (endK.ret rfl ?_)
    rw [pairN, if_pos h]
  have hrG : rightR Q = true := by simp only [Bool.or_eq_false_iff, Bool.not_eq_false'] at h; exact h.1
  have hrl : rightR l = true := by simp only [Bool.or_eq_false_iff, Bool.not_eq_false'] at h; exact h.2
  have nG := right_len hrG
  have nl := right_len hrl
  refine G.skip ?_
  refine G.seq ?_
  refine G.seqR tfine rfl ?_ ?_
  · first | trivial | (simp [AllP, condB]; done) | (simp only [AllP]; and_intros <;> first | trivial | decide | omega) | (simp [AllP, condB]; intros; and_intros <;> first | assumption | omega) | (simp [AllP, condB]; intros; simp_all; done) | (simp [AllP, condB]; intros; simp_all; omega) | (simp [AllP, condB]; omega)
  refine G.cond (b := decide (t < 0) || decide (t > 1099511627776)) rfl (fun h1 => ?_) (fun h1 => ?_)
  · refine G.seqR tfine rfl trivial ?_
    refine G.ret (endK.ret rfl ?_)
    rw [pairN, if_neg (fne h), if_pos h1]
  have hb := edgS_len (Q := Q) t nl Q.length
  refine G.skip ?_
  refine G.seqC tfine rfl trivial ?_
  refine GO.callAns [.c (.r (edgS Q l t Q.length).length 2 (elE (edgS Q l t Q.length)))] [800] rfl rfl rfl rfl ⟨rfl, rfl, rfl, trivial⟩ (fun args w => Try.call30 args w) (fun ρ w hs hok => refEdges_any A B c d Q l t w (hs.row (cap := c) rfl (hok _ List.mem_cons_self)) (hs.row (cap := d) rfl (hok _ (List.mem_cons_of_mem _ List.mem_cons_self))) nG nl) ?_
  refine GO.callPlain (v := .tuple #[I (sizeA Q.length l.length (edgS Q l t Q.length)).1, I (sizeA Q.length l.length (edgS Q l t Q.length)).2]) rfl rfl rfl rfl (fun args w => Try.call50 args w) (fun ρ w hs hok => refSize_any Q.length l.length _ _ (edgS Q l t Q.length) w (hs.rowR rfl (hok _ (List.mem_cons_of_mem _ (List.mem_cons_of_mem _ List.mem_cons_self))) (Nat.le_refl _)) (by omega)) ?_
  refine GO.fin tfine rfl trivial ?_
  refine G.ret (endK.ret rfl ?_)
  rw [pairN, if_neg (fne h), if_neg (fne h1)]
end Go.Proofs.Ytpoalimbjeehkaa
/- Chapter 38: pairs of gaps and records are a greatest matching; the law. -/
set_option linter.unusedVariables false
set_option linter.unusedSimpArgs false
set_option maxRecDepth 8000
set_option maxHeartbeats 2000000
namespace Go.Proofs.Ytpoalimbjeehkaa
open Go.Sx Go.RowKit
theorem pair_facts (Q l : List Rc) (t : Int) : (pairA Q l t).2.2.2 = (pairN Q l t).2 ∧ ((pairA Q l t).1.length : Int) = (pairN Q l t).1 ∧
    ((pairA Q l t).2.2.2 ≠ 0 → (pairA Q l t).2.1.length = 0 ∧ (pairA Q l t).2.2.1.length = 0) ∧
    ((pairA Q l t).2.2.2 = 0 → Q.length ≤ 14 ∧ l.length ≤ 14 ∧ verifyM Q.length l.length (edgS Q l t Q.length) (pairA Q l t).1 (pairA Q l t).2.1 (pairA Q l t).2.2.1 = 0) ∧
    (pairA Q l t).1.length ≤ 24 ∧ (pairA Q l t).2.1.length ≤ 24 ∧ (pairA Q l t).2.2.1.length ≤ 24 := by
  by_cases h : (!(rightR Q) || !(rightR l)) = true
  · rw [pairA, pairN, if_pos h, if_pos h]
    exact ⟨rfl, rfl, fun _ => ⟨rfl, rfl⟩, fun h => absurd h (by simp), by decide, by decide, by decide⟩
  have nG : Q.length ≤ 14 := right_len (by simp only [Bool.not_eq_true, Bool.or_eq_false_iff, Bool.not_eq_false'] at h; exact h.1)
  have nl : l.length ≤ 14 := right_len (by simp only [Bool.not_eq_true, Bool.or_eq_false_iff, Bool.not_eq_false'] at h; exact h.2)
  by_cases h1 : (decide (t < 0) || decide (t > 1099511627776)) = true
  · rw [pairA, pairN, if_neg h, if_neg h, if_pos h1, if_pos h1]
    exact ⟨rfl, rfl, fun _ => ⟨rfl, rfl⟩, fun h => absurd h (by simp), by decide, by decide, by decide⟩
  rw [pairA, pairN, if_neg h, if_neg h, if_neg h1, if_neg h1]
  have hs := own_small Q.length l.length (edgS Q l t Q.length)
  simp only [castL_len, castI_len]
  by_cases hc : checkM Q.length l.length (edgS Q l t Q.length) = 0
  · obtain ⟨v1, v2⟩ := own_verify hc
    have hg := own_good hc
    have hp := (check_ok hc).best.pairs.2
    refine ⟨by rw [v2, hg], ?_, fun hn => absurd v2 hn, fun _ => ⟨nG, nl, v1⟩, hs⟩
    rw [matchA, sizeA, if_neg (by simp [hc]), if_neg (by simp [hc])]
    simp only
    exact congrArg Int.ofNat hp
  · obtain ⟨b1, b2⟩ := own_bad hc
    rw [b1, b2]
    exact ⟨rfl, rfl, fun _ => ⟨rfl, rfl⟩, fun h => absurd h (by simp), by decide, by decide, by decide⟩
theorem GapPairs_any (A B : Option Addr) (c d : Nat) (Q l : List Rc) (t : Int) (w : World) (hG : RdRow w A Q.length 2 (elR Q)) (hl : RdRow w B l.length 2 (elR l)) :
    Calls Try.prog 9 #[.slice A Q.length c, .slice B l.length d, I t] w fun e w' => e = .returned (.bool true) ∧ Below w.heap.size w w' := by
  refine enterPlain tfine Try.func9 rfl 68 Try.ntmps9 [.c (.inp 1000 A Q.length c), .c (.inp 1001 B l.length d), .c (.k (I t))] [⟨1000, A, 2, Q.length, elR Q⟩, ⟨1001, B, 2, l.length, elR l⟩] rfl rfl ⟨hG, hl, trivial⟩ ⟨.inl ⟨rfl, rfl, rfl⟩, .inr ⟨nx rfl, .inl ⟨rfl, rfl, rfl⟩⟩, trivial, trivial⟩ ?_
  refine G.seqR tfine rfl trivial ?_
  refine G.seq ?_
  refine G.seqC tfine rfl trivial ?_
  refine GO.callPlain (v := .bool true) rfl rfl rfl rfl (fun args w => Try.call10 args w) (fun ρ w hs hok => awakeG_any w) ?_
  refine GO.fin tfine rfl trivial ?_
  refine G.cond_false rfl ?_
  refine G.skip ?_
  refine G.seq ?_
  refine G.seqC tfine rfl trivial ?_
  refine GO.callPlain (v := .bool (fewRc Q)) rfl rfl rfl rfl (fun args w => Try.call11 args w) (fun ρ w hs hok => fewRc_any A c Q w (hs.row (cap := c) rfl (hok _ List.mem_cons_self))) ?_
  refine GO.more tfine rfl ?_ ?_
  · first | trivial | (simp [AllP, condB]; done) | (simp only [AllP]; and_intros <;> first | trivial | decide | omega) | (simp [AllP, condB]; intros; and_intros <;> first | assumption | omega) | (simp [AllP, condB]; intros; simp_all; done) | (simp [AllP, condB]; intros; simp_all; omega) | (simp [AllP, condB]; omega)
  refine GO.callGuard (.bool (fewRc l)) rfl rfl rfl (by first | exact trivial | exact ⟨id, trivial⟩ | exact ⟨id, id, trivial⟩ | exact ⟨id, id, id, trivial⟩ | exact ⟨id, id, id, id, trivial⟩) rfl rfl (fun args w => Try.call11 args w) rfl (fun _ m' hle ρ w hs hok => fewRc_any B d l w (hs.row (cap := d) (hle.at rfl) (hok _ List.mem_cons_self))) ?_
  refine GO.fin tfine rfl ?_ ?_
  · first | trivial | (simp [AllP, condB]; done) | (simp only [AllP]; and_intros <;> first | trivial | decide | omega) | (simp [AllP, condB]; intros; and_intros <;> first | assumption | omega) | (simp [AllP, condB]; intros; simp_all; done) | (simp [AllP, condB]; intros; simp_all; omega) | (simp [AllP, condB]; omega)
  refine G.cond (b := (!(fewRc Q) || !(fewRc l))) rfl (fun h => ?_) (fun h => ?_)
  · refine G.seqR tfine rfl trivial ?_
    exact G.ret (endK.ret rfl rfl)
  obtain ⟨hmQ, hml⟩ : Q.length ≤ 1000000 ∧ l.length ≤ 1000000 := by
    simp only [Bool.or_eq_false_iff, Bool.not_eq_false', fewRc, Bool.or_eq_true, decide_eq_true_eq, beq_iff_eq] at h
    omega
  obtain ⟨f1, f2, f3, f4, f5, f6, f7⟩ := pair_facts Q l t
  refine G.skip ?_
  refine G.seqC tfine rfl trivial ?_
  refine GO.callAns [.c (.r Q.length 2 (elR Q))] [800] rfl rfl rfl rfl ⟨rfl, rfl, rfl, trivial⟩ (fun args w => Try.call13 args w) (fun ρ w hs hok => cloneRc_any A c Q w (hs.row (cap := c) rfl (hok _ List.mem_cons_self)) hmQ) ?_
  refine GO.more tfine rfl trivial ?_
  refine GO.callAns [.c (.r l.length 2 (elR l))] [801] rfl rfl rfl rfl ⟨rfl, rfl, rfl, trivial⟩ (fun args w => Try.call13 args w) (fun ρ w hs hok => cloneRc_any B d l w (hs.row (cap := d) rfl (hok _ List.mem_cons_self)) hml) ?_
  refine GO.more tfine rfl trivial ?_
  refine GO.callAns [.agg [.r (pairA Q l t).1.length 2 (elE (pairA Q l t).1), .r (pairA Q l t).2.1.length 1 (elI (pairA Q l t).2.1), .r (pairA Q l t).2.2.1.length 1 (elI (pairA Q l t).2.2.1)], .c (.p (I (pairA Q l t).2.2.2))] [802, 803, 804] rfl rfl rfl rfl ⟨rfl, rfl, rfl, rfl, rfl, rfl, rfl, rfl, rfl, trivial⟩ (fun args w => Try.call27 args w) (fun ρ w hs hok => pair_any _ _ _ _ Q l t w (hs.rowR rfl (hok _ List.mem_cons_self) (Nat.le_refl _)) (hs.rowR rfl (hok _ (List.mem_cons_of_mem _ List.mem_cons_self)) (Nat.le_refl _))) ?_
  refine GO.fin tfine rfl trivial ?_
  refine G.seqC tfine rfl trivial ?_
  refine GO.callPlain (v := .tuple #[I (pairN Q l t).1, I (pairN Q l t).2]) rfl rfl rfl rfl (fun args w => Try.call28 args w) (fun ρ w hs hok => refPaired_any A B c d Q l t w (hs.row (cap := c) rfl (hok _ List.mem_cons_self)) (hs.row (cap := d) rfl (hok _ (List.mem_cons_of_mem _ List.mem_cons_self)))) ?_
  refine GO.fin tfine rfl trivial ?_
  refine G.seq ?_
  refine G.seqR tfine rfl ?_ ?_
  · first | trivial | (simp [AllP, condB]; done) | (simp only [AllP]; and_intros <;> first | trivial | decide | omega) | (simp [AllP, condB]; intros; and_intros <;> first | assumption | omega) | (simp [AllP, condB]; intros; simp_all; done) | (simp [AllP, condB]; intros; simp_all; omega) | (simp [AllP, condB]; omega)
  refine G.cond rfl (fun h1 => ?_) (fun h1 => ?_)
  · exfalso
    rw [f1, f2] at h1
    simp at h1
  refine G.skip ?_
  refine G.seq ?_
  refine G.seqR tfine rfl trivial ?_
  refine G.cond (b := (pairA Q l t).2.2.2 != 0) rfl (fun h2 => ?_) (fun h2 => ?_)
  · obtain ⟨z1, z2⟩ := f3 (by simpa using h2)
    refine G.seqR tfine rfl trivial ?_
    refine G.ret (endK.ret rfl ?_)
    rw [z1, z2]
    rfl
  obtain ⟨nG, nl, v1⟩ := f4 (by simpa using h2)
  have hb := edgS_len (Q := Q) t nl Q.length
  refine G.skip ?_
  refine G.seqDraw hmix [0, 1, 0, 4, 0, 0, 0, 112, 0, 511, 1023, 2047] [(7, 805), (7, 855)] rfl rfl rfl ?_
  refine GD.more tfine 0 rfl rfl trivial ?_
  refine GD.callAns [.c (.r (edgS Q l t Q.length).length 2 (elE (edgS Q l t Q.length)))] [805] 7 rfl rfl rfl rfl rfl ⟨rfl, rfl, rfl, trivial⟩ rfl (fun args w => Try.call30 args w) (fun m1 hle ρ w hs hok => refEdges_any A B c d Q l t w (hs.row (cap := c) (hle.at rfl) (hok _ List.mem_cons_self)) (hs.row (cap := d) (hle.at rfl) (hok _ (List.mem_cons_of_mem _ List.mem_cons_self))) nG nl) ?_
  refine GD.more tfine 8 rfl rfl trivial ?_
  refine GD.call (v := I 0) 9 rfl rfl rfl rfl rfl (fun args w => Try.call29 args w) (fun m1 hle ρ w hs hok => ?_) ?_
  · have o3 := hok _ (List.mem_cons_of_mem _ (List.mem_cons_of_mem _ (List.mem_cons_of_mem _ List.mem_cons_self)))
    have := Verify_any Q.length l.length (rowAd ρ 805) (ρ 855).1 (edgS Q l t Q.length) (rowAd ρ 802) (rowAd ρ 803) (rowAd ρ 804) (ρ 852).1 (ρ 853).1 (ρ 854).1 (pairA Q l t).1 (pairA Q l t).2.1 (pairA Q l t).2.2.1 w (hs.rowR (hle.at rfl) (hok _ (List.mem_cons_of_mem _ (List.mem_cons_of_mem _ List.mem_cons_self))) (Nat.le_refl _)) (hs.rowR (hle.at rfl) (o3 _ List.mem_cons_self) (Nat.le_refl _)) (hs.rowR (hle.at rfl) (o3 _ (List.mem_cons_of_mem _ List.mem_cons_self)) (Nat.le_refl _)) (hs.rowR (hle.at rfl) (o3 _ (List.mem_cons_of_mem _ (List.mem_cons_of_mem _ List.mem_cons_self))) (Nat.le_refl _)) (by omega) (by omega) (by omega) (by omega)
    rw [v1] at this
    exact this
  refine GD.fin tfine 10 rfl rfl trivial ?_
  exact G.ret (endK.ret rfl rfl)
end Go.Proofs.Ytpoalimbjeehkaa
/- Chapter 38: rows of given records and numbers as lists. -/
set_option linter.unusedVariables false
namespace Go.Proofs.Ytpoalimbjeehkaa
open Go.Sx Go.RowKit
theorem pick_list {α β : Type} [Inhabited β] {p : β → α → Prop} {l : List α} (h : ∀ x ∈ l, ∃ y, p y x) : ∃ m : List β, m.length = l.length ∧ ∀ i (hi : i < l.length), p (m.getD i default) l[i] := by
  induction l with
  | nil => exact ⟨[], rfl, fun i hi => absurd hi (Nat.not_lt_zero i)⟩
  | cons a r ih =>
    obtain ⟨y, hy⟩ := h a (by simp)
    obtain ⟨m, h1, h2⟩ := ih fun x hx => h x (by simp [hx])
    refine ⟨y :: m, by simp [h1], fun i hi => ?_⟩
    cases i with
    | zero => exact hy
    | succ i => exact h2 i (by simpa using hi)
theorem i64_bd {n : Int} (h : (Lit.int .i64 n).wf = true) : n ≤ 9223372036854775807 := by
  have h : (decide (IntKind.i64.min ≤ n) && decide (n ≤ IntKind.i64.max)) = true := h
  rw [Bool.and_eq_true] at h
  exact of_decide_eq_true h.2
theorem u32_bd {n : Int} (h : (Lit.int .u32 n).wf = true) : 0 ≤ n ∧ n < 4294967296 := by
  have h : (decide (IntKind.u32.min ≤ n) && decide (n ≤ IntKind.u32.max)) = true := h
  rw [Bool.and_eq_true] at h
  have h1 : 0 ≤ n := of_decide_eq_true h.1
  have h2 : n ≤ 4294967295 := of_decide_eq_true h.2
  omega
theorem rowRc {w : World} {A : Option Addr} {ess : List (List Value)} {d : Nat} (hr : RdRow w A ess.length 2 (fun i => ess.getD i [])) (hw : ∀ es ∈ ess, LeafAll (Leaf.says w (d + 1)) [.int .i64, .int .i64] es) :
    ∃ l : List Rc, l.length = ess.length ∧ RdRow w A l.length 2 (elR l) ∧ ∀ i, (l.getD i (0, 0)).2 ≤ 9223372036854775807 := by
  obtain ⟨l, h1, h2⟩ := pick_list (β := Int × Int) (p := fun x es => es = [I x.1, I x.2] ∧ x.2 ≤ 9223372036854775807) (l := ess) fun es he => by
    obtain ⟨_, _, rfl, ⟨a0, rfl, _⟩, e0⟩ := (hw es he).cons
    obtain ⟨_, _, rfl, ⟨a1, rfl, w1⟩, e1⟩ := e0.cons
    obtain rfl := e1.nil
    exact ⟨(a0, a1), rfl, i64_bd w1⟩
  refine ⟨l, h1, ?_, fun i => ?_⟩
  · rw [h1]
    refine hr.congr fun i hi => ?_
    rw [List.getD_eq_getElem?_getD, List.getElem?_eq_getElem hi]
    exact (h2 i hi).1.symm
  · by_cases hi : i < ess.length
    · exact (h2 i hi).2
    · rw [List.getD_eq_getElem?_getD, List.getElem?_eq_none (by omega)]
      decide
theorem rowIs {w : World} {A : Option Addr} {ess : List (List Value)} {d : Nat} (hr : RdRow w A ess.length 1 (fun i => ess.getD i [])) (hw : ∀ es ∈ ess, LeafAll (Leaf.says w (d + 1)) [.int .i64] es) :
    ∃ l : List Int, l.length = ess.length ∧ RdRow w A l.length 1 (elI l) := by
  obtain ⟨l, h1, h2⟩ := pick_list (β := Int) (p := fun x es => es = [I x]) (l := ess) fun es he => by
    obtain ⟨_, _, rfl, ⟨a0, rfl, _⟩, e0⟩ := (hw es he).cons
    obtain rfl := e0.nil
    exact ⟨a0, rfl⟩
  refine ⟨l, h1, ?_⟩
  rw [h1]
  refine hr.congr fun i hi => ?_
  rw [List.getD_eq_getElem?_getD, List.getElem?_eq_getElem hi]
  exact (h2 i hi).symm
theorem GapCounts_row (A : Option Addr) (c : Nat) (ess : List (List Value)) (g t : Int) (w : World) (hr : RdRow w A ess.length 2 (fun i => ess.getD i [])) (hn : A = none → ess.length = 0) (hm : ess.length ≤ maxLen) (hw : ∀ es ∈ ess, LeafAll (Leaf.says w 3) [.int .i64, .int .i64] es) :
    Calls Try.prog 4 #[.slice A ess.length c, .agg #[I g, I t]] w fun e w' => e = .returned (.bool true) ∧ Below w.heap.size w w' := by
  obtain ⟨l, h1, h2, _⟩ := rowRc hr hw
  rw [← h1]
  exact GapCounts_any A c l g t w h2
theorem GapNear_row (A : Option Addr) (c : Nat) (ess : List (List Value)) (g t : Int) (w : World) (hr : RdRow w A ess.length 2 (fun i => ess.getD i [])) (hn : A = none → ess.length = 0) (hm : ess.length ≤ maxLen) (hw : ∀ es ∈ ess, LeafAll (Leaf.says w 3) [.int .i64, .int .i64] es) :
    Calls Try.prog 5 #[.slice A ess.length c, .agg #[I g, I t]] w fun e w' => e = .returned (.bool true) ∧ Below w.heap.size w w' := by
  obtain ⟨l, h1, h2, _⟩ := rowRc hr hw
  rw [← h1]
  exact GapNear_any A c l g t w h2
theorem GapFewest_row (A : Option Addr) (c : Nat) (ess : List (List Value)) (g t : Int) (w : World) (hr : RdRow w A ess.length 2 (fun i => ess.getD i [])) (hn : A = none → ess.length = 0) (hm : ess.length ≤ maxLen) (hw : ∀ es ∈ ess, LeafAll (Leaf.says w 3) [.int .i64, .int .i64] es) :
    Calls Try.prog 8 #[.slice A ess.length c, .agg #[I g, I t]] w fun e w' => e = .returned (.bool true) ∧ Below w.heap.size w w' := by
  obtain ⟨l, h1, h2, _⟩ := rowRc hr hw
  rw [← h1]
  exact GapFewest_any A c l g t w h2
theorem GapMirrored_row (A : Option Addr) (c : Nat) (ess : List (List Value)) (g t : Int) (wg : (Lit.int .i64 g).wf = true) (wt : (Lit.int .i64 t).wf = true) (w : World) (hr : RdRow w A ess.length 2 (fun i => ess.getD i [])) (hn : A = none → ess.length = 0) (hm : ess.length ≤ maxLen) (hw : ∀ es ∈ ess, LeafAll (Leaf.says w 3) [.int .i64, .int .i64] es) :
    Calls Try.prog 7 #[.slice A ess.length c, .agg #[I g, I t]] w fun e w' => e = .returned (.bool true) ∧ Below w.heap.size w w' := by
  obtain ⟨l, h1, h2, h3⟩ := rowRc hr hw
  rw [← h1]
  exact GapMirrored_any A c l g t (i64_bd wg) h3 w h2
theorem GapWider_row (A : Option Addr) (c : Nat) (ess : List (List Value)) (g t m : Int) (w : World) (hr : RdRow w A ess.length 2 (fun i => ess.getD i [])) (hn : A = none → ess.length = 0) (hm : ess.length ≤ maxLen) (hw : ∀ es ∈ ess, LeafAll (Leaf.says w 3) [.int .i64, .int .i64] es) (wm : (Lit.int .u32 m).wf = true) :
    Calls Try.prog 6 #[.slice A ess.length c, .agg #[I g, I t], .int .u32 m] w fun e w' => e = .returned (.bool true) ∧ Below w.heap.size w w' := by
  obtain ⟨l, h1, h2, _⟩ := rowRc hr hw
  rw [← h1]
  exact GapWider_any A c l g t m (u32_bd wm).1 (u32_bd wm).2 w h2
theorem GapExplains_row (A : Option Addr) (c : Nat) (ess : List (List Value)) (g t : Int) (B : Option Addr) (d : Nat) (ess2 : List (List Value)) (w : World) (hr : RdRow w A ess.length 2 (fun i => ess.getD i [])) (hn : A = none → ess.length = 0) (hm : ess.length ≤ maxLen) (hw : ∀ es ∈ ess, LeafAll (Leaf.says w 3) [.int .i64, .int .i64] es)
    (hr2 : RdRow w B ess2.length 1 (fun i => ess2.getD i [])) (hn2 : B = none → ess2.length = 0) (hm2 : ess2.length ≤ maxLen) (hw2 : ∀ es ∈ ess2, LeafAll (Leaf.says w 3) [.int .i64] es) :
    Calls Try.prog 3 #[.slice A ess.length c, .agg #[I g, I t], .slice B ess2.length d] w fun e w' => e = .returned (.bool true) ∧ Below w.heap.size w w' := by
  obtain ⟨l, h1, h2, _⟩ := rowRc hr hw
  obtain ⟨L, h3, h4⟩ := rowIs hr2 hw2
  rw [← h1, ← h3]
  exact GapExplains_any A c l g t B d L w h2 h4
theorem GapPairs_row (A : Option Addr) (c : Nat) (ess : List (List Value)) (B : Option Addr) (d : Nat) (ess2 : List (List Value)) (t : Int) (w : World) (hr : RdRow w A ess.length 2 (fun i => ess.getD i [])) (hn : A = none → ess.length = 0) (hm : ess.length ≤ maxLen) (hw : ∀ es ∈ ess, LeafAll (Leaf.says w 3) [.int .i64, .int .i64] es)
    (hr2 : RdRow w B ess2.length 2 (fun i => ess2.getD i [])) (hn2 : B = none → ess2.length = 0) (hm2 : ess2.length ≤ maxLen) (hw2 : ∀ es ∈ ess2, LeafAll (Leaf.says w 3) [.int .i64, .int .i64] es) :
    Calls Try.prog 9 #[.slice A ess.length c, .slice B ess2.length d, I t] w fun e w' => e = .returned (.bool true) ∧ Below w.heap.size w w' := by
  obtain ⟨l, h1, h2, _⟩ := rowRc hr hw
  obtain ⟨L, h3, h4, _⟩ := rowRc hr2 hw2
  rw [← h1, ← h3]
  exact GapPairs_any A B c d l L t w h2 h4
end Go.Proofs.Ytpoalimbjeehkaa
