/- Chapter 27: the rays are an iterator. -/
import Derived.Test.YtafhnfcahhlanaaLB3
/- Chapter 27: lists that are made: copies, units, places. -/
set_option linter.unusedVariables false
set_option linter.unusedSimpArgs false
set_option maxRecDepth 8000
set_option maxHeartbeats 1000000
namespace Go.Proofs.Ytafhnfcahhlanaa
open Go.Sx Go.RowKit
theorem cloneC_any (A : Option Addr) (c : Nat) (L : List Int) (w : World) (hl : RdRow w A L.length 1 (elI L)) (hm : L.length ≤ 1000000) (h0 : 0 < L.length) :
    Calls Try.prog 26 #[.slice A L.length c] w fun e w' => OwnCap w w' e 3 L.length 1 (elI L) ∧ Below w.heap.size w w' := by
  refine enterOwnC tfine 3 L.length 1 (elI L) Try.func26 rfl 8 Try.ntmps26 [.c (.inp 1000 A L.length c)] [⟨1000, A, 1, L.length, elI L⟩] rfl rfl ⟨hl, trivial⟩ ⟨.inl ⟨rfl, rfl, rfl⟩, trivial⟩ ?_
  refine G.seqR tfine rfl trivial ?_
  refine G.seq (G.seqR tfine rfl trivial ?_)
  refine G.cond rfl (fun h => ?_) (fun h => ?_)
  · exfalso
    have hA : A = none := by cases A <;> simp at h ⊢
    obtain ⟨b, o, e, _⟩ := hl h0
    rw [hA] at e; cases e
  refine G.skip ?_
  refine G.seqC tfine rfl trivial ?_
  refine GO.emptySliceS tfine rfl rfl rfl rfl rfl rfl rfl fun A0 hA0 => ?_
  refine GO.more tfine rfl trivial ?_
  refine GO.appendNew (elI L) apT35 rfl rfl rfl rfl rfl rfl rfl rfl (RowOf.ro rfl) (fun i hi => rfl) (fun i hi u hu => by simp [elI] at hu; subst hu; rfl) (by unfold maxLen; omega) (by omega) (fun h1 => ?_) fun h1 c' hc' => ?_
  · omega
  · refine GO.fin tfine rfl trivial ?_
    exact G.ret (endOwnC.ret rfl rfl hc' (Nat.le_refl _) rfl fun i hi => rfl)
theorem clone0_any (A : Option Addr) (c : Nat) (w : World) :
    Calls Try.prog 26 #[.slice A 0 c] w fun e w' => ∃ v, e = .returned v ∧ (∃ A0 : Option Addr, v = .slice A0 0 0 ∧ ∀ a, A0 = some a → a.spot = none) ∧ Below w.heap.size w w' := by
  refine enterProp tfine (fun v => ∃ A0 : Option Addr, v = .slice A0 0 0 ∧ ∀ a, A0 = some a → a.spot = none) Try.func26 rfl 8 Try.ntmps26 [.c (.inp 1000 A 0 c)] [⟨1000, A, 1, 0, elI []⟩] rfl rfl ⟨RdRow.nil _ _ _ _, trivial⟩ ⟨.inl ⟨rfl, rfl, rfl⟩, trivial⟩ ?_
  refine G.seqR tfine rfl trivial ?_
  refine G.seq (G.seqR tfine rfl trivial ?_)
  refine G.cond rfl (fun h => ?_) (fun h => ?_)
  · refine G.seqR tfine rfl trivial ?_
    exact G.ret (endKp.ret rfl ⟨none, rfl, fun a h => by cases h⟩)
  refine G.skip ?_
  refine G.seqC tfine rfl trivial ?_
  refine GO.emptySliceS tfine rfl rfl rfl rfl rfl rfl rfl fun A0 hA0 => ?_
  refine GO.more tfine rfl trivial ?_
  refine GO.appendNew (elI []) apT35 rfl rfl rfl rfl rfl rfl rfl rfl (RowOf.ro rfl) (fun i hi => rfl) (fun i hi u hu => by omega) (by decide) (by decide) (fun h1 => ?_) fun h1 c' hc' => ?_
  · refine GO.fin tfine rfl trivial ?_
    exact G.ret (endKp.ret rfl ⟨A0, rfl, hA0⟩)
  · omega
def unitL (n p : Nat) : List Int := (List.range n).map fun i : Nat => if i = p then 1 else 0
theorem unitL_len (n p : Nat) : (unitL n p).length = n := by simp [unitL]
theorem unit_any (n p : Nat) (w : World) (hp : p < n) (hn : n ≤ 1000000) :
    Calls Try.prog 79 #[I n, I p] w fun e w' => OwnCap w w' e 3 n 1 (elI (unitL n p)) ∧ Below w.heap.size w w' := by
  refine enterOwnC tfine 3 n 1 (elI (unitL n p)) Try.func79 rfl 12 Try.ntmps79 [.c (.k (I n)), .c (.k (I p))] [] rfl rfl trivial ⟨trivial, trivial, trivial⟩ ?_
  refine G.seqR tfine rfl trivial ?_
  refine G.seqC tfine rfl trivial ?_
  refine GO.make1 n apT35 rfl rfl rfl rfl rfl rfl rfl rfl rfl (by unfold maxLen; omega) (by omega) (fun h0 => by omega) (fun _ c hc => ?_)
  refine GO.fin tfine rfl trivial ?_
  refine G.seqR tfine rfl ⟨by omega, by omega, by omega, trivial⟩ ?_
  rw [Int.toNat_natCast]
  refine G.seqR tfine rfl trivial ?_
  refine G.ret (endOwnC.ret rfl rfl hc (Nat.le_refl _) rfl fun i hi => ?_)
  simp only [elI, unitL]
  rw [List.getD_eq_getElem?_getD, List.getElem?_map, List.getElem?_range hi]
  by_cases e : i = p
  · subst e; simp
  · simp [e, nbeq e]
def placesL (n : Nat) : List Int := (List.range n).map fun i : Nat => (i : Int)
theorem placesL_len (n : Nat) : (placesL n).length = n := by simp [placesL]
theorem elI_snoc (l : List Int) (x : Int) (j : Nat) (hj : j < l.length + 1) : elN (elI l) l.length [I x] j = elI (l ++ [x]) j := by
  by_cases e : j = l.length
  · subst e
    rw [elN_eq]
    simp [elI]
  · rw [elN_lt (by omega)]
    simp only [elI]
    rw [List.getD_eq_getElem?_getD, List.getD_eq_getElem?_getD, List.getElem?_append_left (by omega)]
theorem placesL_succ (n : Nat) : placesL (n + 1) = placesL n ++ [(n : Int)] := by simp [placesL, List.range_succ]
theorem placesC_any (n : Nat) (w : World) (h0 : 0 < n) (hn : n ≤ 1000000) :
    Calls Try.prog 77 #[I n] w fun e w' => OwnCap w w' e 3 n 1 (elI (placesL n)) ∧ Below w.heap.size w w' := by
  refine enterOwnC tfine 3 n 1 (elI (placesL n)) Try.func77 rfl 15 Try.ntmps77 [.c (.k (I n))] [] rfl rfl trivial ⟨trivial, trivial⟩ ?_
  refine G.seqR tfine rfl trivial ?_
  refine G.seqR tfine rfl trivial ?_
  refine G.seq ?_
  refine G.seqR tfine rfl trivial ?_
  refine G.newNil 12 1 (elI []) rfl ?_
  refine G.block (G.loop (fun z : Nat × Nat => St.of [(3, .v (.c (accV 12 1 z.1 z.2))), (5, .v (.c (.k (I n)))), (6, .v (.c (.k (I z.1))))] [(12, accB 3 1 z.1 z.2 (elI (placesL z.1)))])
    (fun z => z.1 ≤ n ∧ z.1 ≤ z.2) (fun z => n - z.1) (0, 0) ⟨Nat.zero_le _, Nat.le_refl _⟩ (St.le_of rfl ⟨⟨_, rfl, Blk.le_refl _⟩, trivial⟩ ⟨rfl, rfl, rfl, trivial⟩) ?_)
  rintro ⟨k, cp⟩ ⟨hk, hcp⟩
  simp only at hk hcp
  refine G.seqR tfine rfl trivial ?_
  refine G.seq ?_
  refine G.cond (b := decide ((k : Int) < (n : Int))) rfl (fun h2 => ?_) (fun h2 => ?_)
  rotate_left
  · have h2 := of_decide_eq_false h2
    have : k = n := by omega
    subst this
    refine G.exit ?_
    obtain ⟨q, rfl⟩ : ∃ q, k = q + 1 := ⟨k - 1, by omega⟩
    refine G.seqR tfine rfl trivial ?_
    exact G.ret (endOwnC.ret rfl rfl hcp (by omega) rfl fun i hi => rfl)
  have h2 := of_decide_eq_true h2
  have hlt : k < n := by omega
  refine G.skip ?_
  refine G.seq (G.block ?_)
  refine G.seqR tfine rfl trivial ?_
  refine G.region_lit ?_
  refine GO.moveAny tfine rfl (.inl rfl) rfl rfl rfl ?_
  refine GO.more tfine rfl trivial ?_
  refine GO.appendAccB (n := k) (c := cp) (el := elI (placesL k)) [I k] [(5, .v (.c (.k (I n)))), (6, .v (.c (.k (I k))))] [] apT35 rfl rfl rfl rfl rfl rfl rfl rfl rfl rfl (fun u hu => by simp at hu; subst hu; rfl)
    (St.le_of rfl trivial ⟨rfl, rfl, trivial⟩) (fun z b h => by cases h) (fun k hk => rfl) (by unfold maxLen; omega) (by omega) fun c' hc' => ?_
  refine GO.fin tfine rfl trivial ?_
  refine G.reg tfine rfl trivial ?_
  rw [IntWalk.i64_in ((k : Int) + 1) (by omega)]
  refine ⟨(k + 1, c'), ⟨by simp only; omega, by simp only; exact hc'⟩, (by show n - (k + 1) < n - k; omega), ?_⟩
  have hsn : ∀ j, j < k + 1 → elI (placesL (k + 1)) j = elN (elI (placesL k)) k [I k] j := fun j hj => by
    have := elI_snoc (placesL k) k j (by rw [placesL_len]; exact hj)
    rw [placesL_len] at this
    rw [placesL_succ, this]
  exact St.le_of rfl ⟨⟨_, rfl, rfl, rfl, Nat.le_refl _, hsn, Nat.le_refl _⟩, trivial⟩ ⟨rfl, rfl, by simp [up, I], trivial⟩
theorem places0_any (w : World) : Calls Try.prog 77 #[I 0] w fun e w' => e = .returned (.slice none 0 0) ∧ Below w.heap.size w w' := by
  refine enterPlain tfine Try.func77 rfl 15 Try.ntmps77 [.c (.k (I 0))] [] rfl rfl trivial ⟨trivial, trivial⟩ ?_
  refine G.seqR tfine rfl trivial ?_
  refine G.seqR tfine rfl trivial ?_
  refine G.seq ?_
  refine G.seqR tfine rfl trivial ?_
  refine G.block (G.rounds (GI.round ?_))
  refine G.seqR tfine rfl trivial ?_
  refine G.seq ?_
  refine G.cond_false rfl ?_
  refine G.exit ?_
  refine G.seqR tfine rfl trivial ?_
  exact G.ret (endK.ret rfl rfl)
end Go.Proofs.Ytafhnfcahhlanaa
/- Chapter 27: ratios number by number; ratios in lowest terms. -/
set_option linter.unusedVariables false
set_option linter.unusedSimpArgs false
set_option maxRecDepth 8000
set_option maxHeartbeats 1000000
namespace Go.Proofs.Ytafhnfcahhlanaa
open Go.Sx Go.RowKit
def ordN (a : List Int) (ao : Int) (b : List Int) (bo : Int) : Nat → Nat → Int
  | _, 0 => 0
  | k, n + 1 => if cmpM (a.getD k 0) ao (b.getD k 0) bo ≠ 0 then cmpM (a.getD k 0) ao (b.getD k 0) bo else ordN a ao b bo (k + 1) n
def ordM (a : List Int) (ao : Int) (b : List Int) (bo : Int) : Int := ordN a ao b bo 0 a.length
theorem order_any (A B : Option Addr) (c d : Nat) (a b : List Int) (ao bo : Int) (w : World) (hA : RdRow w A a.length 1 (elI a)) (hB : RdRow w B b.length 1 (elI b)) (hab : a.length ≤ b.length) (hn : b.length < 4611686018427387904) (hmin : ∀ k, k < a.length → -9223372036854775808 < a.getD k 0) :
    Calls Try.prog 73 #[.agg #[.slice A a.length c, I ao], .agg #[.slice B b.length d, I bo]] w fun e w' => e = .returned (I (ordM a ao b bo)) ∧ Below w.heap.size w w' := by
  refine enterPlain tfine Try.func73 rfl 32 Try.ntmps73 [.agg [.inp 1000 A a.length c, .k (I ao)], .agg [.inp 1001 B b.length d, .k (I bo)]] [⟨1000, A, 1, a.length, elI a⟩, ⟨1001, B, 1, b.length, elI b⟩] rfl rfl ⟨hA, hB, trivial⟩ ⟨⟨.inl ⟨rfl, rfl, rfl⟩, trivial, trivial⟩, ⟨.inr ⟨nx rfl, .inl ⟨rfl, rfl, rfl⟩⟩, trivial, trivial⟩, trivial⟩ ?_
  refine G.seqR tfine rfl trivial ?_
  refine G.seq ?_
  refine G.seqR tfine rfl trivial ?_
  refine G.block (G.loop (fun k : Nat => St.of [(2, .v (.c (.ptr 2 0 0 0))), (3, .v (.c (.ptr 3 0 0 0))), (9, .v (.c (.k (I a.length)))), (10, .v (.c (.k (I k))))] [(2, .var 29 [.inp 1000 A a.length c, .k (I ao)]), (3, .var 29 [.inp 1001 B b.length d, .k (I bo)]), (1000, .ro 1 a.length (elI a)), (1001, .ro 1 b.length (elI b))])
    (fun k => k ≤ a.length ∧ ordM a ao b bo = ordN a ao b bo k (a.length - k)) (fun k => a.length - k) 0 ⟨by omega, by simp [ordM]⟩ (St.le_of rfl ⟨⟨_, rfl, Blk.le_refl _⟩, ⟨_, rfl, Blk.le_refl _⟩, ⟨_, rfl, Blk.le_refl _⟩, ⟨_, rfl, Blk.le_refl _⟩, trivial⟩ ⟨rfl, rfl, rfl, rfl, trivial⟩) ?_)
  rintro k ⟨hk, hr⟩
  refine G.seqR tfine rfl trivial ?_
  refine G.seq ?_
  refine G.cond (b := decide ((k : Int) < (a.length : Int))) rfl (fun h2 => ?_) (fun h2 => ?_)
  rotate_left
  · have h2 := of_decide_eq_false h2
    have : k = a.length := by omega
    subst this
    refine G.exit ?_
    refine G.seqR tfine rfl trivial ?_
    exact G.ret (endK.ret rfl (by rw [hr]; simp [ordN]))
  have h2 := of_decide_eq_true h2
  have hlt : k < a.length := by omega
  refine G.skip ?_
  refine G.seq ?_
  refine G.block ?_
  refine G.seqR tfine rfl trivial ?_
  refine G.seqDraw hmix [0, 1, 0, 7, 15, 0, 32, 0, 128, 0, 896, 1920, 0, 4096, 16383, 32767] [] rfl rfl rfl ?_
  refine GD.more tfine 0 rfl rfl ⟨by omega, by omega, by omega, by omega, by omega, by omega, trivial⟩ ?_
  rw [Int.toNat_natCast]
  refine GD.call (v := I (cmpM (a.getD k 0) ao (b.getD k 0) bo)) 14 rfl rfl rfl rfl rfl (fun args w => Try.call72 args w) (fun m' hle ρ w hs hok => cmp_any (a.getD k 0) ao (b.getD k 0) bo w (hmin k hlt)) ?_
  refine GD.fin tfine 15 rfl rfl trivial ?_
  have hs : a.length - k = (a.length - (k + 1)) + 1 := by omega
  have hl : ordN a ao b bo k (a.length - (k + 1) + 1) = if cmpM (a.getD k 0) ao (b.getD k 0) bo ≠ 0 then cmpM (a.getD k 0) ao (b.getD k 0) bo else ordN a ao b bo (k + 1) (a.length - (k + 1)) := rfl
  rw [hs, hl] at hr
  refine G.seqR tfine rfl trivial ?_
  refine G.cond (b := cmpM (a.getD k 0) ao (b.getD k 0) bo != 0) rfl (fun h => ?_) (fun h => ?_)
  · rw [if_pos (by simpa using h)] at hr
    refine G.seqR tfine rfl trivial ?_
    exact G.ret (endK.ret rfl (by rw [hr]))
  rw [if_neg (by simpa using h)] at hr
  refine G.skip ?_
  refine G.reg tfine rfl trivial ?_
  rw [IntWalk.i64_in ((k : Int) + 1) (by omega)]
  exact ⟨k + 1, ⟨by omega, hr⟩, (by show a.length - (k + 1) < a.length - k; omega), St.le_of rfl ⟨⟨_, rfl, Blk.le_refl _⟩, ⟨_, rfl, Blk.le_refl _⟩, ⟨_, rfl, Blk.le_refl _⟩, ⟨_, rfl, Blk.le_refl _⟩, trivial⟩ ⟨rfl, rfl, rfl, by simp [up, I], trivial⟩⟩
end Go.Proofs.Ytafhnfcahhlanaa
/- Chapter 27: ratios in lowest terms. -/
set_option linter.unusedVariables false
set_option linter.unusedSimpArgs false
set_option maxRecDepth 8000
set_option maxHeartbeats 1000000
namespace Go.Proofs.Ytafhnfcahhlanaa
open Go.Sx Go.RowKit
/-- the divisor of ratios; the numbers in lowest terms -/
def gL (l : List Int) (over : Int) : Int := divM (l ++ [over])
def lowL (l : List Int) (over : Int) : List Int := l.map fun n => W (n.tdiv (gL l over))
def lowO (l : List Int) (over : Int) : Int := W (over.tdiv (gL l over))
def chL (l : List Int) (over : Int) : Nat → Option Fam
  | 2 => some (ownF 709 3 l.length 1 (elI l))
  | 6 => some (conF 709 13 (l.length + 1) 1 (elN (elI l) l.length [I over]))
  | _ => none
theorem ownF_nm {x : Nat} {ty : TypeId} {n sz : Nat} {el : Nat → List Value} : ∀ u y, (mget ((ownF x ty n sz el).ms u) y).isSome = true → y ∈ (ownF x ty n sz el).nm := by
  intro u y h
  simp only [ownF, mget] at h ⊢
  cases hb : Nat.beq y x with
  | true => rw [Nat.eq_of_beq_eq_true hb]; simp
  | false => rw [hb] at h; cases h
theorem conF_nm {x d n sz : Nat} {el : Nat → List Value} : ∀ u y, (mget ((conF x d n sz el).ms u) y).isSome = true → y ∈ (conF x d n sz el).nm := by
  intro u y h
  simp only [conF, mget] at h ⊢
  cases hb : Nat.beq y d with
  | true => rw [Nat.eq_of_beq_eq_true hb]; simp
  | false =>
    rw [hb] at h
    cases hb : Nat.beq y x with
    | true => rw [Nat.eq_of_beq_eq_true hb]; simp
    | false => rw [hb] at h; cases h
theorem accF_nm {x d n sz : Nat} {e : TypeId} {el : Nat → List Value} : ∀ u y, (mget ((accF x d n sz e el).ms u) y).isSome = true → y ∈ (accF x d n sz e el).nm := by
  intro u y h
  simp only [accF, mget] at h ⊢
  cases hb : Nat.beq y d with
  | true => rw [Nat.eq_of_beq_eq_true hb]; simp
  | false =>
    rw [hb] at h
    cases hb : Nat.beq y x with
    | true => rw [Nat.eq_of_beq_eq_true hb]; simp
    | false => rw [hb] at h; cases h
theorem lowC_any (A : Option Addr) (c0 : Nat) (l : List Int) (over : Int) (w : World) (hA : RdRow w A l.length 1 (elI l)) (h0 : 0 < l.length) (hn : l.length ≤ 100000) (hg : gL l over ≠ 0) :
    Calls Try.prog 71 #[.agg #[.slice A l.length c0, I over]] w fun e w' => Ans w w' [.agg [.r (lowL l over).length 1 (elI (lowL l over)), .p (I (lowO l over))]] e ∧ Below w.heap.size w w' := by
  refine enterAns tfine _ Try.func71 rfl 37 Try.ntmps71 [.agg [.inp 1000 A l.length c0, .k (I over)]] [⟨1000, A, 1, l.length, elI l⟩] rfl rfl ⟨hA, trivial⟩ ⟨⟨.inl ⟨rfl, rfl, rfl⟩, trivial, trivial⟩, trivial⟩ ?_
  refine G.seqR tfine rfl trivial ?_
  refine G.seq ?_
  apply G.drawC (ch := chL l over) (cls := [0, 1, 3, 0, 8, 24, 63, 127, 255]) (X := [(2, 709), (6, 13), (6, 709)]) hmix rfl rfl rfl
  · intro c
    refine GC.more tfine 0 rfl rfl rfl trivial ?_
    refine GC.choice 2 rfl (ownF 709 3 l.length 1 (elI l)) rfl (StepsC.callOwn 709 3 l.length 1 (elI l) rfl rfl rfl rfl rfl rfl (fun args w => Try.call26 args w) (fun m' hle ρ w hs hok => cloneC_any A c0 l w (hs.row (cap := c0) (hle.at rfl) (hok _ List.mem_cons_self)) (by omega) h0)) rfl ownF_nm rfl ?_
    refine GC.more tfine 3 rfl rfl rfl trivial ?_
    refine GC.choice 6 rfl (conF 709 13 (l.length + 1) 1 (elN (elI l) l.length [I over])) rfl (StepsC.appendCon (c := capN l.length (c 2)) (room := (capN l.length (c 2) - l.length) * 1) [I over] apT35 rfl rfl rfl rfl rfl rfl rfl rfl (Nat.le_refl _) rfl rfl rfl rfl (fun u hu => by simp at hu; subst hu; rfl) (fun k hk => rfl) (by unfold maxLen; omega) (by omega)) rfl conF_nm rfl ?_
    refine GC.step 7 rfl rfl (tv := toTV (I (gL l over))) (ms := []) (Steps.callPlain rfl rfl rfl rfl (fun args w => Try.call83 args w) (fun m' hle ρ w hs hok => ?_)) rfl ?_
    · obtain ⟨⟨A1, c1, e1, h1, _⟩, _⟩ := hs.ok 13 _ (hle.at rfl)
      have := div_any A1 c1 (l ++ [over]) w (by rw [List.length_append]; exact h1.congr fun i hi => (elI_snoc l over i hi).symm) (by simp; omega)
      rw [List.length_append, List.length_singleton] at this
      show Calls Try.prog _ #[(c 6).1] w _
      rw [e1]
      exact this
    refine GC.more tfine 8 rfl rfl rfl trivial ?_
    refine GC.nil ?_
    refine G.seqR tfine rfl ⟨hg, trivial⟩ ?_
    refine G.seq ?_
    refine G.seqR tfine rfl trivial ?_
    refine G.newNil 833 1 (elI []) rfl ?_
    refine G.block (G.loop (fun z : Nat × Nat => St.of [(2, .v (.c (.ptr 2 0 0 0))), (3, .v (.c (.k (I (gL l over))))), (4, .v (.c (.ptr 4 0 0 0))), (21, .v (.c (.inp 1000 A l.length c0))), (22, .v (.c (.k (I l.length)))), (23, .v (.c (.k (I z.1))))]
      [(2, .var 29 [.k (.slice none 0 0), .k (I 0)]), (4, .var 29 [accV 833 1 z.1 z.2, .k (I (lowO l over))]), (833, accB 3 1 z.1 z.2 (elI ((lowL l over).take z.1))), (1000, .ro 1 l.length (elI l))])
      (fun z => z.1 ≤ l.length ∧ z.1 ≤ z.2) (fun z => l.length - z.1) (0, 0) ⟨Nat.zero_le _, Nat.le_refl _⟩ (St.le_of rfl ⟨⟨_, rfl, Blk.le_refl _⟩, ⟨_, rfl, Blk.le_refl _⟩, ⟨_, rfl, Blk.le_refl _⟩, ⟨_, rfl, Blk.le_refl _⟩, trivial⟩ ⟨rfl, rfl, rfl, rfl, rfl, rfl, trivial⟩) ?_)
    rintro ⟨k, cp⟩ ⟨hk, hcp⟩
    simp only at hk hcp
    have hlen : (lowL l over).length = l.length := by simp [lowL]
    refine G.seqR tfine rfl trivial ?_
    refine G.seq ?_
    refine G.cond (b := decide ((k : Int) < (l.length : Int))) rfl (fun h2 => ?_) (fun h2 => ?_)
    rotate_left
    · have h2 := of_decide_eq_false h2
      have : k = l.length := by omega
      subst this
      refine G.exit ?_
      obtain ⟨q, hq⟩ : ∃ q, l.length = q + 1 := ⟨l.length - 1, by omega⟩
      rw [List.take_of_length_le (by omega)]
      rw [hlen]
      rw [hq] at hcp ⊢
      refine G.seqR tfine rfl trivial ?_
      exact G.ret (endAns.ret ⟨⟨_, rfl, ⟨⟨hcp, rfl, rfl, rfl, (by omega), fun i hi => by rw [Nat.zero_add]⟩, rfl, trivial⟩⟩, trivial⟩)
    have h2 := of_decide_eq_true h2
    have hlt : k < l.length := by omega
    refine G.skip ?_
    refine G.seq (G.block ?_)
    refine G.seqR tfine rfl ⟨by omega, by omega, by omega, trivial⟩ ?_
    rw [Int.toNat_natCast]
    obtain ⟨v, hv⟩ : ∃ v, v = W ((l.getD k 0).tdiv (gL l over)) := ⟨_, rfl⟩
    have hvl : (lowL l over).take (k + 1) = (lowL l over).take k ++ [v] := by
      rw [List.take_succ_eq_append_getElem (by omega)]
      congr 2
      rw [hv]
      simp [lowL, List.getD_eq_getElem?_getD, List.getElem?_eq_getElem hlt]
    have hlk : ((lowL l over).take k).length = k := by rw [List.length_take]; omega
    have hsn : ∀ j, j < k + 1 → elI ((lowL l over).take (k + 1)) j = elN (elI ((lowL l over).take k)) k [I v] j := fun j hj => by
      have := elI_snoc ((lowL l over).take k) v j (by rw [hlk]; exact hj)
      rw [hlk] at this
      rw [hvl, this]
    rcases k with _ | k
    · apply G.drawC (ch := fun j => match j with | 6 => some (accF 833 33 (0 + 1) 1 3 (elN (elI ((lowL l over).take 0)) 0 [I v])) | _ => none) (cls := [0, 1, 0, 0, 12, 28, 63, 127, 255]) (X := [(6, 33), (6, 833), (8, 4)]) hmix rfl rfl rfl
      · intro c
        refine GC.more tfine 0 rfl rfl rfl ⟨hg, trivial⟩ ?_
        refine GC.choice 6 rfl _ rfl (StepsC.appendAcc (n := 0) (c := cp) [I v] apT35 rfl rfl rfl rfl rfl rfl rfl rfl rfl rfl rfl (by rw [hv]; rfl) rfl (fun u hu => by simp at hu; subst hu; rfl) (fun k hk => rfl) (by unfold maxLen; omega) (by omega)) rfl accF_nm rfl ?_
        refine GC.more tfine 7 rfl rfl rfl trivial ?_
        refine GC.nil ?_
        refine G.weaken (st' := St.of [(2, .v (.c (.ptr 2 0 0 0))), (3, .v (.c (.k (I (gL l over))))), (4, .v (.c (.ptr 4 0 0 0))), (21, .v (.c (.inp 1000 A l.length c0))), (22, .v (.c (.k (I l.length)))), (23, .v (.c (.k (I 0))))]
          [(2, .var 29 [.k (.slice none 0 0), .k (I 0)]), (4, .var 29 [.slc 33 0 1 (0 + 1) (capN (0 + 1) (c 6)), .k (I (lowO l over))]), (33, .arr 3 1 (0 + 1) (elN (elI ((lowL l over).take 0)) 0 [I v]) ((capN (0 + 1) (c 6) - (0 + 1)) * 1)), (1000, .ro 1 l.length (elI l))])
          (St.le_of rfl ⟨⟨_, rfl, Blk.le_refl _⟩, ⟨_, rfl, Blk.le_refl _⟩, ⟨_, rfl, Blk.le_refl _⟩, ⟨_, rfl, Blk.le_refl _⟩, trivial⟩ ⟨rfl, rfl, rfl, rfl, rfl, rfl, trivial⟩) ?_
        refine G.rn 33 833 rfl trivial rfl rfl rfl ?_
        refine G.reg tfine rfl trivial ?_
        refine ⟨(0 + 1, capN (0 + 1) (c 6)), ⟨by simp only; omega, capN_le _ _⟩, (by show l.length - (0 + 1) < l.length - 0; omega), ?_⟩
        exact St.le_of rfl ⟨⟨_, rfl, Blk.le_refl _⟩, ⟨_, rfl, Blk.le_refl _⟩, ⟨_, rfl, rfl, rfl, Nat.le_refl _, hsn, Nat.le_refl _⟩, ⟨_, rfl, Blk.le_refl _⟩, trivial⟩ ⟨rfl, rfl, rfl, rfl, rfl, by first | rfl | (simp [up, I, rnS, rnTV, rnAV, rnAC]; rw [IntWalk.i64_in _ (by omega)]), trivial⟩
      ·
        intro c c' j hj h
        have hj : j < 9 := hj
        match j, hj, h with
        | 0, _, h => first | rfl | (show some _ = some _; done)
        | 1, _, h => first | rfl | (show some _ = some _; done)
        | 2, _, h => first | rfl | (show some _ = some _; done)
        | 3, _, h => first | rfl | (show some _ = some _; done)
        | 4, _, h => first | rfl | (show some _ = some _; done)
        | 5, _, h => first | rfl | (show some _ = some _; done)
        | 6, _, h => first | rfl | (show some _ = some _; (try rw [h 6 (.inl rfl)]); (try rw [h 6 (.inr ⟨rfl, rfl⟩)]); done)
        | 7, _, h => first | rfl | (show some _ = some _; (try rw [h 6 (.inl rfl)]); (try rw [h 6 (.inr ⟨rfl, rfl⟩)]); done)
        | 8, _, h => first | rfl | (show some _ = some _; (try rw [h 6 (.inl rfl)]); (try rw [h 6 (.inr ⟨rfl, rfl⟩)]); done)
    · apply G.drawC (ch := fun j => match j with | 6 => some (accF 833 33 ((k + 1) + 1) 1 3 (elN (elI ((lowL l over).take (k + 1))) (k + 1) [I v])) | _ => none) (cls := [0, 1, 0, 0, 12, 28, 63, 127, 255]) (X := [(6, 33), (6, 833), (8, 4)]) hmix rfl rfl rfl
      · intro c
        refine GC.more tfine 0 rfl rfl rfl ⟨hg, trivial⟩ ?_
        refine GC.choice 6 rfl _ rfl (StepsC.appendAcc (n := (k + 1)) (c := cp) [I v] apT35 rfl rfl rfl rfl rfl rfl rfl rfl rfl rfl rfl (by rw [hv]; rfl) rfl (fun u hu => by simp at hu; subst hu; rfl) (fun k hk => rfl) (by unfold maxLen; omega) (by omega)) rfl accF_nm rfl ?_
        refine GC.more tfine 7 rfl rfl rfl trivial ?_
        refine GC.nil ?_
        refine G.weaken (st' := St.of [(2, .v (.c (.ptr 2 0 0 0))), (3, .v (.c (.k (I (gL l over))))), (4, .v (.c (.ptr 4 0 0 0))), (21, .v (.c (.inp 1000 A l.length c0))), (22, .v (.c (.k (I l.length)))), (23, .v (.c (.k (I (k + 1)))))]
          [(2, .var 29 [.k (.slice none 0 0), .k (I 0)]), (4, .var 29 [.slc 33 0 1 ((k + 1) + 1) (capN ((k + 1) + 1) (c 6)), .k (I (lowO l over))]), (33, .arr 3 1 ((k + 1) + 1) (elN (elI ((lowL l over).take (k + 1))) (k + 1) [I v]) ((capN ((k + 1) + 1) (c 6) - ((k + 1) + 1)) * 1)), (1000, .ro 1 l.length (elI l))])
          (St.le_of rfl ⟨⟨_, rfl, Blk.le_refl _⟩, ⟨_, rfl, Blk.le_refl _⟩, ⟨_, rfl, Blk.le_refl _⟩, ⟨_, rfl, Blk.le_refl _⟩, trivial⟩ ⟨rfl, rfl, rfl, rfl, rfl, rfl, trivial⟩) ?_
        refine G.rn 33 833 rfl trivial rfl rfl rfl ?_
        refine G.reg tfine rfl trivial ?_
        refine ⟨((k + 1) + 1, capN ((k + 1) + 1) (c 6)), ⟨by simp only; omega, capN_le _ _⟩, (by show l.length - ((k + 1) + 1) < l.length - (k + 1); omega), ?_⟩
        exact St.le_of rfl ⟨⟨_, rfl, Blk.le_refl _⟩, ⟨_, rfl, Blk.le_refl _⟩, ⟨_, rfl, rfl, rfl, Nat.le_refl _, hsn, Nat.le_refl _⟩, ⟨_, rfl, Blk.le_refl _⟩, trivial⟩ ⟨rfl, rfl, rfl, rfl, rfl, by first | rfl | (simp [up, I, rnS, rnTV, rnAV, rnAC]; rw [IntWalk.i64_in _ (by omega)]), trivial⟩
      ·
        intro c c' j hj h
        have hj : j < 9 := hj
        match j, hj, h with
        | 0, _, h => first | rfl | (show some _ = some _; done)
        | 1, _, h => first | rfl | (show some _ = some _; done)
        | 2, _, h => first | rfl | (show some _ = some _; done)
        | 3, _, h => first | rfl | (show some _ = some _; done)
        | 4, _, h => first | rfl | (show some _ = some _; done)
        | 5, _, h => first | rfl | (show some _ = some _; done)
        | 6, _, h => first | rfl | (show some _ = some _; (try rw [h 6 (.inl rfl)]); (try rw [h 6 (.inr ⟨rfl, rfl⟩)]); done)
        | 7, _, h => first | rfl | (show some _ = some _; (try rw [h 6 (.inl rfl)]); (try rw [h 6 (.inr ⟨rfl, rfl⟩)]); done)
        | 8, _, h => first | rfl | (show some _ = some _; (try rw [h 6 (.inl rfl)]); (try rw [h 6 (.inr ⟨rfl, rfl⟩)]); done)
  ·
    intro c c' j hj h
    have hj : j < 9 := hj
    match j, hj, h with
    | 0, _, h => first | rfl | (show some _ = some _; done)
    | 1, _, h => first | rfl | (show some _ = some _; done)
    | 2, _, h => first | rfl | (show some _ = some _; (try rw [h 2 (.inl rfl)]); (try rw [h 2 (.inr ⟨rfl, rfl⟩)]); done)
    | 3, _, h => first | rfl | (show some _ = some _; (try rw [h 2 (.inl rfl)]); (try rw [h 2 (.inr ⟨rfl, rfl⟩)]); done)
    | 4, _, h => first | rfl | (show some _ = some _; (try rw [h 2 (.inl rfl)]); (try rw [h 2 (.inr ⟨rfl, rfl⟩)]); done)
    | 5, _, h => first | rfl | (show some _ = some _; (try rw [h 2 (.inl rfl)]); (try rw [h 2 (.inr ⟨rfl, rfl⟩)]); done)
    | 6, _, h => first | rfl | (show some _ = some _; (try rw [h 2 (.inl rfl)]); (try rw [h 2 (.inr ⟨rfl, rfl⟩)]); (try rw [h 6 (.inl rfl)]); (try rw [h 6 (.inr ⟨rfl, rfl⟩)]); done)
    | 7, _, h => first | rfl | (show some _ = some _; (try rw [h 2 (.inl rfl)]); (try rw [h 2 (.inr ⟨rfl, rfl⟩)]); (try rw [h 6 (.inl rfl)]); (try rw [h 6 (.inr ⟨rfl, rfl⟩)]); done)
    | 8, _, h => first | rfl | (show some _ = some _; (try rw [h 2 (.inl rfl)]); (try rw [h 2 (.inr ⟨rfl, rfl⟩)]); (try rw [h 6 (.inl rfl)]); (try rw [h 6 (.inr ⟨rfl, rfl⟩)]); done)
def adrC (u : Cho) : Option Addr := match u.1 with
  | .slice A _ _ => A
  | _ => none
theorem sayF_nm {x : Nat} {val : Cho → Value} {S : Cho → Nat → Prop} {R : Cho → World → Prop} : ∀ u y, (mget ((sayF x val S R).ms u) y).isSome = true → y ∈ (sayF x val S R).nm := by
  intro u y h
  simp only [sayF, mget] at h ⊢
  cases hb : Nat.beq y x with
  | true => rw [Nat.eq_of_beq_eq_true hb]; simp
  | false => rw [hb] at h; cases h
theorem conF0_nm {d sz : Nat} {el : Nat → List Value} : ∀ u y, (mget ((conF0 d sz el).ms u) y).isSome = true → y ∈ (conF0 d sz el).nm := by
  intro u y h
  simp only [conF0, mget] at h ⊢
  cases hb : Nat.beq y d with
  | true => rw [Nat.eq_of_beq_eq_true hb]; simp
  | false => rw [hb] at h; cases h
theorem steady_true {S : Nat → Prop} : Steady S (fun _ => True) := fun _ _ _ _ _ => trivial
theorem low0_any (A : Option Addr) (c0 : Nat) (over : Int) (w : World) (hg : gL [] over ≠ 0) :
    Calls Try.prog 71 #[.agg #[.slice A 0 c0, I over]] w fun e w' => Ans w w' [.agg [.r 0 1 (elI []), .p (I (lowO [] over))]] e ∧ Below w.heap.size w w' := by
  refine enterAns tfine _ Try.func71 rfl 37 Try.ntmps71 [.agg [.inp 1000 A 0 c0, .k (I over)]] [⟨1000, A, 1, 0, elI []⟩] rfl rfl ⟨RdRow.nil _ _ _ _, trivial⟩ ⟨⟨.inl ⟨rfl, rfl, rfl⟩, trivial, trivial⟩, trivial⟩ ?_
  refine G.seqR tfine rfl trivial ?_
  refine G.seq ?_
  apply G.drawC (ch := fun j => match j with | 2 => some (sayF 709 (fun u => .slice (adrC u) 0 0) (fun _ _ => False) (fun _ _ => True)) | 6 => some (conF0 13 1 (elN (elI []) 0 [I over])) | _ => none) (cls := [0, 1, 3, 0, 8, 24, 63, 127, 255]) (X := [(2, 709), (6, 13)]) hmix rfl rfl rfl
  · intro c
    refine GC.more tfine 0 rfl rfl rfl trivial ?_
    refine GC.choice 2 rfl _ rfl (StepsC.callSay 709 (fun u => .slice (adrC u) 0 0) (fun _ _ => False) (fun _ _ => True) rfl rfl rfl rfl rfl (fun args w => Try.call26 args w) (fun m' hle ρ w hs hok => (clone0_any A c0 w).mono ?_)) rfl sayF_nm rfl ?_
    · rintro e w' ⟨v, rfl, ⟨A0, rfl, _⟩, hb⟩
      exact ⟨(.slice A0 0 0, fun _ => False), rfl, hb, trivial, fun k hk => hk.elim, steady_true⟩
    refine GC.more tfine 3 rfl rfl rfl trivial ?_
    refine GC.choice 6 rfl _ rfl (StepsC.appendCon0 (A0 := adrC (c 2)) (elI []) [I over] apT35 rfl rfl rfl rfl rfl rfl rfl rfl rfl (fun u hu => by simp at hu; subst hu; rfl) (by decide)) rfl conF0_nm rfl ?_
    refine GC.step 7 rfl rfl (tv := toTV (I (gL [] over))) (ms := []) (Steps.callPlain rfl rfl rfl rfl (fun args w => Try.call83 args w) (fun m' hle ρ w hs hok => ?_)) rfl ?_
    · obtain ⟨⟨A1, c1, e1, h1, _⟩, _⟩ := hs.ok 13 _ (hle.at rfl)
      have := div_any A1 c1 [over] w (h1.congr fun i hi => (elI_snoc [] over i hi).symm) (by simp)
      show Calls Try.prog _ #[(c 6).1] w _
      rw [e1]
      exact this
    refine GC.more tfine 8 rfl rfl rfl trivial ?_
    refine GC.nil ?_
    refine G.seqR tfine rfl ⟨hg, trivial⟩ ?_
    refine G.seq ?_
    refine G.seqR tfine rfl trivial ?_
    refine G.block (G.rounds (GI.round ?_))
    refine G.seqR tfine rfl trivial ?_
    refine G.seq ?_
    refine G.cond_false rfl ?_
    refine G.exit ?_
    refine G.seqR tfine rfl trivial ?_
    exact G.ret (endAns.ret ⟨⟨_, rfl, ⟨⟨rfl, rfl, fun a h => by cases h⟩, rfl, trivial⟩⟩, trivial⟩)
  ·
    intro c c' j hj h
    have hj : j < 9 := hj
    match j, hj, h with
    | 0, _, h => first | rfl | (show some _ = some _; done)
    | 1, _, h => first | rfl | (show some _ = some _; done)
    | 2, _, h => first | rfl | (show some _ = some _; (try rw [h 2 (.inl rfl)]); (try rw [h 2 (.inr ⟨rfl, rfl⟩)]); done)
    | 3, _, h => first | rfl | (show some _ = some _; (try rw [h 2 (.inl rfl)]); (try rw [h 2 (.inr ⟨rfl, rfl⟩)]); done)
    | 4, _, h => first | rfl | (show some _ = some _; (try rw [h 2 (.inl rfl)]); (try rw [h 2 (.inr ⟨rfl, rfl⟩)]); done)
    | 5, _, h => first | rfl | (show some _ = some _; (try rw [h 2 (.inl rfl)]); (try rw [h 2 (.inr ⟨rfl, rfl⟩)]); done)
    | 6, _, h => first | rfl | (show some _ = some _; (try rw [h 2 (.inl rfl)]); (try rw [h 2 (.inr ⟨rfl, rfl⟩)]); (try rw [h 6 (.inl rfl)]); (try rw [h 6 (.inr ⟨rfl, rfl⟩)]); done)
    | 7, _, h => first | rfl | (show some _ = some _; (try rw [h 2 (.inl rfl)]); (try rw [h 2 (.inr ⟨rfl, rfl⟩)]); (try rw [h 6 (.inl rfl)]); (try rw [h 6 (.inr ⟨rfl, rfl⟩)]); done)
    | 8, _, h => first | rfl | (show some _ = some _; (try rw [h 2 (.inl rfl)]); (try rw [h 2 (.inr ⟨rfl, rfl⟩)]); (try rw [h 6 (.inl rfl)]); (try rw [h 6 (.inr ⟨rfl, rfl⟩)]); done)
theorem low_any (A : Option Addr) (c0 : Nat) (l : List Int) (over : Int) (w : World) (hA : RdRow w A l.length 1 (elI l)) (hn : l.length ≤ 100000) (hg : gL l over ≠ 0) :
    Calls Try.prog 71 #[.agg #[.slice A l.length c0, I over]] w fun e w' => Ans w w' [.agg [.r (lowL l over).length 1 (elI (lowL l over)), .p (I (lowO l over))]] e ∧ Below w.heap.size w w' := by
  cases l with
  | nil => exact low0_any A c0 over w hg
  | cons x l => exact lowC_any A c0 (x :: l) over w hA (by simp) hn hg
end Go.Proofs.Ytafhnfcahhlanaa
/- Chapter 27: one number less of a list; determinants. -/
set_option linter.unusedVariables false
set_option linter.unusedSimpArgs false
set_option maxRecDepth 8000
set_option maxHeartbeats 1000000
namespace Go.Proofs.Ytafhnfcahhlanaa
open Go.Sx Go.RowKit
theorem cloneIO_any (A : Option Addr) (c : Nat) (L : List Int) (w : World) (hl : RdRow w A L.length 1 (elI L)) (hm : L.length ≤ 1000000) (h0 : 0 < L.length) :
    Calls Try.prog 26 #[.slice A L.length c] w fun e w' => OwnNew w w' e 3 L.length 1 (elI L) ∧ Below w.heap.size w w' := by
  refine enterOwnNew tfine 3 L.length 1 (elI L) Try.func26 rfl 8 Try.ntmps26 [.c (.inp 1000 A L.length c)] [⟨1000, A, 1, L.length, elI L⟩] rfl rfl ⟨hl, trivial⟩ ⟨.inl ⟨rfl, rfl, rfl⟩, trivial⟩ ?_
  refine G.seqR tfine rfl trivial ?_
  refine G.seq (G.seqR tfine rfl trivial ?_)
  refine G.cond rfl (fun h => ?_) (fun h => ?_)
  · exfalso
    have hA : A = none := by cases A <;> simp at h ⊢
    obtain ⟨b, o, e, _⟩ := hl h0
    rw [hA] at e; cases e
  refine G.skip ?_
  refine G.seqC tfine rfl trivial ?_
  refine GO.emptySliceS tfine rfl rfl rfl rfl rfl rfl rfl fun A0 hA0 => ?_
  refine GO.more tfine rfl trivial ?_
  refine GO.appendNew (elI L) apT35 rfl rfl rfl rfl rfl rfl rfl rfl (RowOf.ro rfl) (fun i hi => rfl) (fun i hi u hu => by simp [elI] at hu; subst hu; rfl) (by unfold maxLen; omega) (by omega) (fun h1 => ?_) fun h1 c' hc' => ?_
  · omega
  · refine GO.fin tfine rfl trivial ?_
    exact G.ret (endOwnN.ret rfl rfl hc' rfl fun i hi => rfl)
def delF (el : Nat → List Value) (i q : Nat) : List Value := if q < i then el q else el (q + 1)
theorem deleteIs_any (b n c i : Nat) (el : Nat → List Value) (w : World) (ho : OwnAt w b 3 n 1 el 0) (hi : i < n) (hc : n ≤ c) (h1 : ∀ q, q < n → ∀ u ∈ el q, u.oneCell' = true) (hn : n ≤ 1000000) :
    Calls Try.prog 82 #[.slice (some ⟨b, 0, none⟩) n c, I i, I ((i : Int) + 1)] w fun e w' => e = .returned (.slice (some ⟨b, 0, none⟩) (n - 1) c) ∧ Fr w [b] w' ∧ OwnAt w' b 3 (n - 1) 1 (delF el i) 0 := by
  refine (enterBwS tfine 1900 b 1 (n - 1) c [⟨1900, b, .arr 3 1 n el 0⟩] [⟨1900, b, .arr 3 1 (n - 1) (delF el i) 0⟩] Try.func82 rfl 33 Try.ntmps82 [.c (.slc 1900 0 1 n c), .c (.k (I i)), .c (.k (I ((i : Int) + 1)))] []
    trivial trivial ⟨trivial, trivial⟩ ⟨⟨Nat.le_refl _, trivial, trivial, ho⟩, trivial⟩ rfl rfl ⟨.inl rfl, trivial, trivial, trivial⟩ (fun q hq => by simp only [List.mem_cons, List.not_mem_nil, or_false] at hq; subst hq; exact ⟨_, List.mem_cons_self, rfl, rfl⟩) ⟨trivial, trivial⟩ ⟨_, List.mem_cons_self, rfl, rfl⟩ ?_).mono fun e w' h => ⟨h.1, h.2.1, h.2.2.1⟩
  refine G.seqR tfine rfl trivial ?_
  refine G.seqC tfine rfl trivial ?_
  refine GO.slice3 tfine i ((i : Int) + 1) n rfl rfl rfl rfl rfl rfl rfl rfl rfl rfl (by omega) (by omega) (by omega) (by omega) (GO.nil ?_)
  refine G.seq (G.seqR tfine rfl trivial ?_)
  refine G.cond (b := ((i : Int) == (i : Int) + 1)) rfl (fun h => ?_) (fun h => ?_)
  · exfalso
    simp only [beq_iff_eq] at h
    omega
  refine G.skip ?_
  refine G.seqR tfine rfl trivial ?_
  have e1 : i + (n - (i + 1)) = n - 1 := by omega
  have e2 : (n - (n - 1)) * 1 = 1 := by omega
  have hel : ∀ q, q < i + (n - (i + 1)) → delF el i q = if q < i then el q else el (i + 1 + (q - i)) := fun q hq => by
    unfold delF
    by_cases h : q < i
    · rw [if_pos h, if_pos h]
    · rw [if_neg h, if_neg h]
      congr 1
      omega
  refine G.join (fun _ : Unit => St.of [(0, .v (.c (.slc 1900 0 1 (n - 1) c))), (7, .v (.c (.k (I n))))] [(1900, .arr 3 1 (n - 1) (delF el i) 1)]) (fun _ => True) ?_ ?_
  · by_cases hcc : i + 1 < c
    · refine G.draw (cls := [0, 0, 3, 0, 0, 24, 63, 127]) (X := [(6, 1900)]) hmix rfl rfl rfl ?_
      refine GD.more tfine 0 rfl rfl ?_ ?_
      · simp only [AllP]; and_intros <;> first | trivial | omega
      have z1 : ((i : Int).toNat - Int.toNat 0) = i := by simp
      have z2 : c - Int.toNat 0 = c := by simp
      have z3 : (0 + Int.toNat 0) = 0 := rfl
      have z4 : (0 + ((i : Int) + 1).toNat) = i + 1 := by omega
      have z5 : ((n : Int).toNat - ((i : Int) + 1).toNat) = n - (i + 1) := by omega
      have z6 : c - ((i : Int) + 1).toNat = c - (i + 1) := by omega
      rw [z1, z2, z3, z4, z5, z6]
      refine GD.appendIn (i := i) (j := i + 1) (k := n - (i + 1)) (c2 := c - (i + 1)) (delF el i) 6 rfl apT35 rfl rfl rfl rfl rfl rfl rfl (by omega) (by omega) (by omega) h1 hel ?_
      rw [e1, e2]
      refine GD.fin tfine 7 rfl rfl trivial ?_
      exact ⟨(), trivial, St.le_of rfl ⟨⟨_, rfl, Blk.le_refl _⟩, trivial⟩ ⟨rfl, rfl, trivial⟩⟩
    · have hn1 : n = i + 1 := by omega
      have hc1 : c = i + 1 := by omega
      subst hn1 hc1
      refine G.draw (cls := [0, 0, 3, 0, 0, 24, 63, 127]) (X := [(6, 1900)]) hmix rfl rfl rfl ?_
      refine GD.op1 tfine 0 rfl rfl trivial rfl ?_
      refine GD.op1 tfine 1 rfl rfl trivial rfl ?_
      refine GD.op1 tfine 2 rfl rfl ?_ rfl ?_
      · simp only [AllP]; and_intros <;> first | trivial | omega
      refine GD.op1 tfine 3 rfl rfl trivial rfl ?_
      refine GD.op1 tfine 4 rfl rfl trivial rfl ?_
      have z1 : ((i : Int).toNat - Int.toNat 0) = i := by simp
      have z2 : (i + 1) - Int.toNat 0 = i + 1 := by simp
      have z3 : (0 + Int.toNat 0) = 0 := rfl
      rw [z1, z2, z3]
      refine GD.sliceEnd (n := i + 1) tfine 5 rfl rfl rfl rfl rfl rfl rfl rfl rfl ?_
      refine GD.appendIn (i := i) (j := 0) (k := 0) (c2 := 0) (delF el i) 6 rfl apT35 rfl rfl rfl rfl rfl rfl rfl (by omega) (by omega) (by omega) h1 (fun q hq => by rw [hel q (by omega), if_pos (by omega), if_pos (by omega)]) ?_
      rw [show i + 0 = i + 1 - 1 by omega, show (i + 1 - (i + 1 - 1)) * 1 = 1 by omega]
      refine GD.fin tfine 7 rfl rfl trivial ?_
      exact ⟨(), trivial, St.le_of rfl ⟨⟨_, rfl, Blk.le_refl _⟩, trivial⟩ ⟨rfl, rfl, trivial⟩⟩
  rintro _ _
  refine G.seqC tfine rfl ?_ ?_
  · simp only [AllP]; and_intros <;> first | trivial | omega
  have y1 : (0 + (((n - 1 : Nat) : Int)).toNat) = n - 1 := by simp
  have y2 : ((n : Int).toNat - (((n - 1 : Nat) : Int)).toNat) = n - (n - 1) := by simp
  have y3 : c - (((n - 1 : Nat) : Int)).toNat = c - (n - 1) := by simp
  rw [y1, y2, y3]
  refine GO.clear (i := n - 1) (k := n - (n - 1)) (c := c - (n - 1)) apT35 rfl rfl rfl rfl rfl (by omega) (by omega) (by omega) (fun w => by kernel_rfl) (fun u hu => by simp [Value.cells] at hu; subst hu; rfl) (GO.nil ?_)
  refine G.seqR tfine rfl trivial ?_
  exact G.ret (endBwS.ret rfl rfl ⟨⟨_, _, rfl, fun q hq => rfl⟩, trivial⟩)
theorem elI_erase (L : List Int) (i q : Nat) (hq : q < L.length - 1) (hi : i < L.length) : elI (L.eraseIdx i) q = delF (elI L) i q := by
  have h1 : q < (L.eraseIdx i).length := by rw [List.length_eraseIdx]; split <;> omega
  have : (L.eraseIdx i).getD q 0 = if q < i then L.getD q 0 else L.getD (q + 1) 0 := by
    simp only [List.getD_eq_getElem?_getD]
    rw [List.getElem?_eraseIdx]
    split <;> rfl
  unfold delF elI
  rw [this]
  split <;> rfl
/-! ### Nested lists -/
/-- A list of numbers in memory. -/
def IntsAt (w : World) (v : Value) (l : List Int) : Prop := ∃ A c, v = .slice A l.length c ∧ RdRow w A l.length 1 (elI l) ∧ (0 < l.length → l.length ≤ c)
/-- A list of lists of numbers. -/
def MatAt (w : World) (v : Value) (M : List (List Int)) (vs : Nat → Value) : Prop := ∃ A c, v = .slice A M.length c ∧ RdRow w A M.length 1 (fun i => [vs i]) ∧ (0 < M.length → M.length ≤ c) ∧ ∀ i, i < M.length → IntsAt w (vs i) (M.getD i [])
theorem IntsAt.below {w w' : World} {v : Value} {l : List Int} (h : IntsAt w v l) (hb : Below w.heap.size w w') : IntsAt w' v l := by
  obtain ⟨A, c, rfl, h1, h2⟩ := h
  exact ⟨A, c, rfl, h1.below hb, h2⟩
theorem MatAt.below {w w' : World} {v : Value} {M : List (List Int)} {vs : Nat → Value} (h : MatAt w v M vs) (hb : Below w.heap.size w w') : MatAt w' v M vs := by
  obtain ⟨A, c, rfl, h1, h2, h3⟩ := h
  exact ⟨A, c, rfl, h1.below hb, h2, fun i hi => (h3 i hi).below hb⟩
def detL (r : List Int) (D : List Int → Int) (cols : List Int) : Nat → Int × Int
  | 0 => (0, 1)
  | k + 1 => (if r.getD (cols.getD k 0).toNat 0 ≠ 0 then W ((detL r D cols k).1 + W (W ((detL r D cols k).2 * r.getD (cols.getD k 0).toNat 0) * D (cols.eraseIdx k))) else (detL r D cols k).1, W (0 - (detL r D cols k).2))
def detC : List (List Int) → List Int → Int
  | [] => fun cols => if cols = [] then 1 else 0
  | r :: M => fun cols => if cols = [] then 1 else (detL r (detC M) cols cols.length).1
theorem det_any : ∀ (M : List (List Int)) (cols : List Int) (rv : Value) (vs : Nat → Value) (C : Option Addr) (cc : Nat) (w : World), MatAt w rv M vs → RdRow w C cols.length 1 (elI cols) → cols.length ≤ M.length → M.length ≤ 1000 → (∀ c ∈ cols, 0 ≤ c ∧ ∀ r ∈ M, c < r.length) → (∀ r ∈ M, r.length ≤ 100000) →
    Calls Try.prog 76 #[rv, .slice C cols.length cc] w fun e w' => e = .returned (I (detC M cols)) ∧ Below w.heap.size w w' := by
  intro M
  induction M with
  | nil =>
    rintro cols rv vs C cc w ⟨A, c, rfl, hA, hc, hv⟩ hC hl _ _ _
    have : cols = [] := by simpa using hl
    subst this
    refine enterPlain tfine Try.func76 rfl 49 Try.ntmps76 [.c (.inp 1000 A 0 c), .c (.inp 1001 C 0 cc)] [⟨1000, A, 1, 0, fun i => [vs i]⟩, ⟨1001, C, 1, 0, elI []⟩] rfl rfl ⟨hA, hC, trivial⟩ ⟨.inl ⟨rfl, rfl, rfl⟩, .inr ⟨nx rfl, .inl ⟨rfl, rfl, rfl⟩⟩, trivial⟩ ?_
    refine G.seqR tfine rfl trivial ?_
    refine G.seq (G.seqR tfine rfl trivial ?_)
    refine G.cond_true rfl ?_
    refine G.seqR tfine rfl trivial ?_
    exact G.ret (endK.ret rfl rfl)
  | cons r M ih =>
    rintro cols rv vs C cc w ⟨A, c, rfl, hA, hc, hv⟩ hC hl hM hcol hrl
    have hM1 : M.length + 1 ≤ 1000 := hM
    have hl1 : cols.length ≤ M.length + 1 := hl
    refine enterPlain tfine Try.func76 rfl 49 Try.ntmps76 [.c (.inp 1000 A (M.length + 1) c), .c (.inp 1001 C cols.length cc)] [⟨1000, A, 1, M.length + 1, fun i => [vs i]⟩, ⟨1001, C, 1, cols.length, elI cols⟩] rfl rfl ⟨hA, hC, trivial⟩ ⟨.inl ⟨rfl, rfl, rfl⟩, .inr ⟨nx rfl, .inl ⟨rfl, rfl, rfl⟩⟩, trivial⟩ ?_
    refine G.seqR tfine rfl trivial ?_
    refine G.seq (G.seqR tfine rfl trivial ?_)
    refine G.cond (b := (((cols.length : Nat) : Int) == 0)) rfl (fun h => ?_) (fun h => ?_)
    · have : cols = [] := by
        have h : (cols.length : Int) = 0 := by simpa using h
        exact List.length_eq_zero_iff.1 (by omega)
      subst this
      refine G.seqR tfine rfl trivial ?_
      exact G.ret (endK.ret rfl rfl)
    have hne : cols ≠ [] := fun e => by subst e; simp at h
    refine G.skip ?_
    refine G.seqR tfine rfl trivial ?_
    refine G.seq ?_
    refine G.seqR tfine rfl trivial ?_
    refine G.block (G.loop (fun k : Nat => St.of [(0, .v (.c (.inp 1000 A (M.length + 1) c))), (1, .v (.c (.inp 1001 C cols.length cc))), (5, .v (.c (.k (I (detL r (detC M) cols k).1)))), (6, .v (.c (.k (I (detL r (detC M) cols k).2)))), (14, .v (.c (.inp 1001 C cols.length cc))), (15, .v (.c (.k (I cols.length)))), (16, .v (.c (.k (I k))))] [(1000, .ro 1 (M.length + 1) fun i => [vs i]), (1001, .ro 1 cols.length (elI cols))])
      (fun k => k ≤ cols.length) (fun k => cols.length - k) 0 (by omega) (St.le_of rfl ⟨⟨_, rfl, Blk.le_refl _⟩, ⟨_, rfl, Blk.le_refl _⟩, trivial⟩ ⟨rfl, rfl, rfl, rfl, rfl, rfl, rfl, trivial⟩) ?_)
    rintro k hk
    refine G.seqR tfine rfl trivial ?_
    refine G.seq ?_
    refine G.cond (b := decide ((k : Int) < (cols.length : Int))) rfl (fun h2 => ?_) (fun h2 => ?_)
    rotate_left
    · have h2 := of_decide_eq_false h2
      have : k = cols.length := by omega
      subst this
      refine G.exit ?_
      refine G.seqR tfine rfl trivial ?_
      refine G.ret (endK.ret rfl ?_)
      show I _ = I ((if cols = [] then 1 else (detL r (detC M) cols cols.length).1))
      rw [if_neg hne]
    have h2 := of_decide_eq_true h2
    have hlt : k < cols.length := by omega
    refine G.skip ?_
    refine G.seq ?_
    refine G.block ?_
    refine G.seqR tfine rfl ⟨by omega, by omega, by omega, trivial⟩ ?_
    rw [Int.toNat_natCast]
    obtain ⟨x, hx⟩ : ∃ x, x = cols.getD k 0 := ⟨_, rfl⟩
    have hxm : x ∈ cols := by rw [hx, List.getD_eq_getElem?_getD, List.getElem?_eq_getElem hlt]; exact List.getElem_mem hlt
    have hx0 := (hcol x hxm).1
    have hxr := (hcol x hxm).2 r List.mem_cons_self
    have hrl0 := hrl r List.mem_cons_self
    obtain ⟨A0, c0, e0, h0, _⟩ := hv 0 (Nat.succ_pos _)
    have h0 : RdRow w A0 r.length 1 (elI r) := h0
    have e0 : vs 0 = .slice A0 r.length c0 := e0
    rw [← hx]
    refine G.seqC tfine rfl trivial ?_
    refine GO.steps (Steps.callOwnR 705 3 cols.length 1 (elI cols) rfl rfl rfl rfl rfl rfl rfl (fun args w => Try.call26 args w) (fun m' hle ρ w1 hs hok => cloneIO_any C cc cols w1 (hs.row (cap := cc) (hle.at rfl) (hok _ List.mem_cons_self)) (by omega) (by omega))) ?_
    refine GO.more tfine rfl trivial ?_
    rw [IntWalk.i64_in ((k : Int) + 1) (by omega)]
    refine GO.callTurnR 705 3 cols.length (cols.length - 1) 1 w.heap.size (elI cols) (delF (elI cols) k) rfl rfl rfl rfl rfl List.mem_cons_self (Nat.sub_le _ _) (fun args w => Try.call82 args w) (fun m1 hle ρ w1 hs hok => ?_) ?_
    · have o := hok _ List.mem_cons_self
      have e := hs.rowAd (hle.at rfl) o (by omega)
      have := deleteIs_any (ρ 705).1 cols.length (ρ 755).1 k (elI cols) w1 (hs.ownA (hle.at rfl)) hlt o.2.2.2 (fun q hq u hu => by simp [elI] at hu; subst hu; rfl) (by omega)
      have e2 : (List.map (AV.conc ρ) [AV.c (.row 705 cols.length w.heap.size), AV.c (.k (I k)), AV.c (.k (I ((k : Int) + 1)))] ++ List.map (Cap.conc ρ) []).toArray = #[.slice (some ⟨(ρ 705).1, 0, none⟩) cols.length (ρ 755).1, I k, I ((k : Int) + 1)] := by
        simp [AV.conc, AC.conc, e]
      have e3 : AC.conc ρ (.row 705 (cols.length - 1) w.heap.size) = .slice (some ⟨(ρ 705).1, 0, none⟩) (cols.length - 1) (ρ 755).1 := by
        simp [AC.conc, e]
      rw [← e2, ← e3] at this
      exact this
    refine GO.fin tfine rfl trivial ?_
    have hst : detL r (detC M) cols (k + 1) = (if r.getD x.toNat 0 ≠ 0 then W ((detL r (detC M) cols k).1 + W (W ((detL r (detC M) cols k).2 * r.getD x.toNat 0) * detC M (cols.eraseIdx k))) else (detL r (detC M) cols k).1, W (0 - (detL r (detC M) cols k).2)) := by rw [hx]; rfl
    refine G.join (fun s : Int => St.of [(0, .v (.c (.inp 1000 A (M.length + 1) c))), (1, .v (.c (.inp 1001 C cols.length cc))), (5, .v (.c (.k (I s)))), (6, .v (.c (.k (I (detL r (detC M) cols k).2)))), (14, .v (.c (.inp 1001 C cols.length cc))), (15, .v (.c (.k (I cols.length)))), (16, .v (.c (.k (I k))))] [(1000, .ro 1 (M.length + 1) fun i => [vs i]), (1001, .ro 1 cols.length (elI cols))])
      (fun s => s = (detL r (detC M) cols (k + 1)).1) ?_ ?_
    · refine G.seqC tfine rfl ⟨by omega, by omega, by omega, trivial⟩ ?_
      refine GO.openRow (A := A0) (n := r.length) (sz := 1) (cap := c0) (el := elI r) 702 29 h0 rfl (by rw [← e0]; rfl) rfl rfl ?_
      refine GO.fin tfine rfl ⟨by omega, by omega, by omega, trivial⟩ ?_
      refine G.seqR tfine rfl trivial ?_
      refine G.cond (b := r.getD x.toNat 0 != 0) rfl (fun h3 => ?_) (fun h3 => ?_)
      · refine G.region_lit (GO.firstN tfine 5 rfl trivial ?_)
        refine GO.tail1 tfine rfl rfl rfl rfl rfl rfl rfl (by omega) (hc (Nat.succ_pos _)) ?_
        refine GO.more tfine rfl trivial ?_
        refine GO.callPlain (v := I (detC M (cols.eraseIdx k))) rfl rfl rfl rfl (fun args w => Try.call76 args w) (fun ρ w1 hs hok => ?_) ?_
        · have hll : (cols.eraseIdx k).length = cols.length - 1 := by rw [List.length_eraseIdx, if_pos hlt]
          have hrd := hs.rowA rfl (hok _ (List.mem_cons_of_mem _ List.mem_cons_self)) (Nat.le_refl _)
          have hb := hs.fr.toBelow
          have := ih (cols.eraseIdx k) (.slice (tailA A c 1) M.length (c - 1)) (fun i => vs (i + 1)) (rowAd ρ 705) (ρ 755).1 w1 ⟨_, _, rfl, (hA.below hb).tail (hc (Nat.succ_pos _)), fun _ => by have hc1 : M.length + 1 ≤ c := hc (Nat.succ_pos _); omega, fun i hi => (hv (i + 1) (by simpa using hi)).below hb⟩
            (by rw [hll]; exact hrd.congr fun i hi => elI_erase cols k i hi hlt) (by rw [hll]; omega) (by omega) (fun c hc => ⟨(hcol c (List.mem_of_mem_eraseIdx hc)).1, fun r' hr' => (hcol c (List.mem_of_mem_eraseIdx hc)).2 r' (List.mem_cons_of_mem _ hr')⟩) (fun r' hr' => hrl r' (List.mem_cons_of_mem _ hr'))
          rw [hll] at this
          exact this
        refine GO.fin tfine rfl trivial ?_
        refine ⟨_, ?_, St.le_of rfl ⟨⟨_, rfl, Blk.le_refl _⟩, ⟨_, rfl, Blk.le_refl _⟩, trivial⟩ ⟨rfl, rfl, rfl, rfl, rfl, rfl, rfl, trivial⟩⟩
        rw [hst, if_pos (by simpa using h3)]
      · refine G.skip ?_
        refine ⟨_, ?_, St.le_of rfl ⟨⟨_, rfl, Blk.le_refl _⟩, ⟨_, rfl, Blk.le_refl _⟩, trivial⟩ ⟨rfl, rfl, rfl, rfl, rfl, rfl, rfl, trivial⟩⟩
        rw [hst, if_neg (by simpa using h3)]
    rintro s hs
    refine G.reg tfine rfl trivial ?_
    refine G.reg tfine rfl trivial ?_
    rw [IntWalk.i64_in ((k : Int) + 1) (by omega)]
    exact ⟨k + 1, by omega, (by show cols.length - (k + 1) < cols.length - k; omega), St.le_of rfl ⟨⟨_, rfl, Blk.le_refl _⟩, ⟨_, rfl, Blk.le_refl _⟩, trivial⟩ ⟨rfl, rfl, by rw [← hs]; rfl, by rw [hst]; rfl, rfl, rfl, by simp [up, I], trivial⟩⟩
end Go.Proofs.Ytafhnfcahhlanaa
/- Chapter 27: conditions that are kept. -/
set_option linter.unusedVariables false
set_option linter.unusedSimpArgs false
set_option maxRecDepth 8000
set_option maxHeartbeats 1000000
namespace Go.Proofs.Ytafhnfcahhlanaa
open Go.Sx Go.RowKit
abbrev Cond := List Int × Int
def cAt (L : List Cond) (i : Nat) : Cond := L.getD i ([], 0)
def elC (L : List Cond) (vs : Nat → Value) (i : Nat) : List Value := [vs i, I (cAt L i).2]
/-- Conditions in memory. -/
def ConsAt (w : World) (v : Value) (L : List Cond) (vs : Nat → Value) : Prop := ∃ A c, v = .slice A L.length c ∧ RdRow w A L.length 2 (elC L vs) ∧ (0 < L.length → L.length ≤ c) ∧ ∀ i, i < L.length → IntsAt w (vs i) (cAt L i).1
theorem ConsAt.below {w w' : World} {v : Value} {L : List Cond} {vs : Nat → Value} (h : ConsAt w v L vs) (hb : Below w.heap.size w w') : ConsAt w' v L vs := by
  obtain ⟨A, c, rfl, h1, h2, h3⟩ := h
  exact ⟨A, c, rfl, h1.below hb, h2, fun i hi => (h3 i hi).below hb⟩
def Pt (g : Nat) : Value := .pointer (some ⟨g, 0, none⟩)
def failC (nums : List Int) (over : Int) (r : Cond) : Bool := decide (dotL r.1 nums < W (r.2 * over))
theorem fail_any (v : Value) (r : Cond) (B : Option Addr) (d b1 b2 : Nat) (nums : List Int) (over : Int) (w : World) (hv : IntsAt w v r.1) (hB : RdRow w B nums.length 1 (elI nums)) (h1 : w.heap[b1]? = some (.cells #[.slice B nums.length d] 22 (0, 0))) (h2 : w.heap[b2]? = some (.cells #[I over] 3 (0, 0)))
    (hl : r.1.length ≤ nums.length) (hn : nums.length ≤ 100000) :
    Calls Try.prog 97 #[.agg #[v, I r.2], Pt b1, Pt b2] w fun e w' => e = .returned (.bool (failC nums over r)) ∧ Below w.heap.size w w' := by
  obtain ⟨A, c, rfl, hA, _⟩ := hv
  refine enterOld [.agg [.k (.slice A r.1.length c), .k (I r.2)], .c (.k (Pt b1)), .c (.k (Pt b2))] Try.func97 rfl 14 Try.ntmps97 rfl rfl ⟨⟨trivial, trivial, trivial⟩, trivial, trivial, trivial⟩ ?_
  refine G.openPtr (b := b1) (ty := 22) (cs := [.slice B nums.length d]) 1 701 1 rfl (fun w' ha => heap_asOf h1 ha) (lt_of_heap h1) rfl rfl rfl ?_
  refine G.openPtr (b := b2) (ty := 3) (cs := [I over]) 1 702 2 rfl (fun w' ha => heap_asOf h2 ha) (lt_of_heap h2) rfl rfl rfl ?_
  refine G.seqR tfine rfl trivial ?_
  refine G.seqDraw hmix [0, 1, 0, 7, 0, 16, 0, 112, 255, 511] [] rfl rfl rfl ?_
  refine GD.more tfine 0 rfl rfl ⟨by decide, trivial⟩ ?_
  refine GD.call (v := I (dotL r.1 nums)) 3 rfl rfl rfl rfl rfl (fun args w => Try.call39 args w) (fun m' hle ρ w1 hs hok => dot_any A B c d r.1 nums w1 (hA.below hs.fr.toBelow) (hB.below hs.fr.toBelow) hl (by omega)) ?_
  refine GD.fin tfine 4 rfl rfl ⟨by decide, trivial⟩ ?_
  exact G.ret (retK.plain tfine rfl rfl)
theorem firstI_cons (p : Nat → Bool) (k n : Nat) (h : 0 < n) : firstI p k n = if p k = true then (k : Int) else firstI p (k + 1) (n - 1) := by
  obtain ⟨m, rfl⟩ : ∃ m, n = m + 1 := ⟨n - 1, by omega⟩
  simp [firstI]
theorem indexC_any (q : Nat → Bool) (b1 b2 : Nat) (A : Option Addr) (c : Nat) (L : List Cond) (vs : Nat → Value) (w : World) (hA : RdRow w A L.length 2 (elC L vs)) (hn : L.length ≤ 100000)
    (hq : ∀ i, i < L.length → ∀ w1, Below w.heap.size w w1 → Calls Try.prog 97 #[.agg #[vs i, I (cAt L i).2], Pt b1, Pt b2] w1 fun e w' => e = .returned (.bool (q i)) ∧ Below w1.heap.size w1 w') :
    Calls Try.prog 103 #[.slice A L.length c, .func (.func 97) #[] #[Pt b1, Pt b2]] w fun e w' => e = .returned (I (firstI q 0 L.length)) ∧ Below w.heap.size w w' := by
  refine enterPlain tfine Try.func103 rfl 19 Try.ntmps103 [.c (.inp 1000 A L.length c), .c (.k (.func (.func 97) #[] #[Pt b1, Pt b2]))] [⟨1000, A, 2, L.length, elC L vs⟩] rfl rfl ⟨hA, trivial⟩ ⟨.inl ⟨rfl, rfl, rfl⟩, trivial, trivial⟩ ?_
  refine G.seqR tfine rfl trivial ?_
  refine G.seq (G.seqR tfine rfl trivial ?_)
  refine G.block (G.loop (fun k : Nat => St.of [(0, .v (.c (.inp 1000 A L.length c))), (1, .v (.c (.k (.func (.func 97) #[] #[Pt b1, Pt b2])))), (7, .v (.c (.k (I L.length)))), (8, .v (.c (.k (I k))))] [(1000, .ro 2 L.length (elC L vs))])
    (fun k => k ≤ L.length ∧ firstI q 0 L.length = firstI q k (L.length - k)) (fun k => L.length - k) 0 ⟨by omega, by simp⟩ (St.le_of rfl ⟨⟨_, rfl, Blk.le_refl _⟩, trivial⟩ ⟨rfl, rfl, rfl, rfl, trivial⟩) ?_)
  rintro k ⟨hk, hfi⟩
  refine G.seqR tfine rfl trivial ?_
  refine G.seq (G.cond rfl (fun h => ?_) (fun h => ?_))
  rotate_left
  · have h := of_decide_eq_false h
    have : k = L.length := by omega
    subst this
    refine G.exit ?_
    refine G.seqR tfine rfl trivial ?_
    refine G.ret (endK.ret rfl ?_)
    rw [hfi]
    simp [firstI]
  have h := of_decide_eq_true h
  have hlt : k < L.length := by omega
  rw [firstI_cons q k _ (by omega)] at hfi
  refine G.skip ?_
  refine G.seq (G.block ?_)
  refine G.seqR tfine rfl trivial ?_
  refine G.seqC tfine rfl ⟨by simpa using hlt, by omega, by omega, trivial⟩ ?_
  rw [Int.toNat_natCast]
  refine GO.callPlain (v := .bool (q k)) rfl rfl rfl rfl (fun args w => Try.call97 args w) (fun ρ w1 hs _ => hq k hlt w1 hs.fr.toBelow) (GO.nil ?_)
  refine G.cond (b := q k) rfl (fun h2 => ?_) (fun h2 => ?_)
  · refine G.seqR tfine rfl trivial ?_
    refine G.ret (endK.ret rfl ?_)
    rw [hfi, if_pos h2]
  · refine G.skip ?_
    refine G.reg tfine rfl trivial ?_
    rw [IntWalk.i64_in _ (by omega)]
    rw [if_neg (by simpa using h2)] at hfi
    exact ⟨k + 1, ⟨by omega, by rw [hfi]; rfl⟩, (by show L.length - (k + 1) < L.length - k; omega), St.le_of rfl ⟨⟨_, rfl, Blk.le_refl _⟩, trivial⟩ ⟨rfl, rfl, rfl, by simp [up, I], trivial⟩⟩
theorem containsC_any (q : Nat → Bool) (b1 b2 : Nat) (A : Option Addr) (c : Nat) (L : List Cond) (vs : Nat → Value) (w : World) (hA : RdRow w A L.length 2 (elC L vs)) (hn : L.length ≤ 100000)
    (hq : ∀ i, i < L.length → ∀ w1, Below w.heap.size w w1 → Calls Try.prog 97 #[.agg #[vs i, I (cAt L i).2], Pt b1, Pt b2] w1 fun e w' => e = .returned (.bool (q i)) ∧ Below w1.heap.size w1 w') :
    Calls Try.prog 96 #[.slice A L.length c, .func (.func 97) #[] #[Pt b1, Pt b2]] w fun e w' => e = .returned (.bool (decide (firstI q 0 L.length ≥ 0))) ∧ Below w.heap.size w w' := by
  refine enterPlain tfine Try.func96 rfl 9 Try.ntmps96 [.c (.inp 1000 A L.length c), .c (.k (.func (.func 97) #[] #[Pt b1, Pt b2]))] [⟨1000, A, 2, L.length, elC L vs⟩] rfl rfl ⟨hA, trivial⟩ ⟨.inl ⟨rfl, rfl, rfl⟩, trivial, trivial⟩ ?_
  refine G.seqR tfine rfl trivial ?_
  refine G.seqC tfine rfl trivial ?_
  refine GO.callPlain (v := I (firstI q 0 L.length)) rfl rfl rfl rfl (fun args w => Try.call103 args w) (fun ρ w1 hs hok => indexC_any q b1 b2 A c L vs w1 (hA.below hs.fr.toBelow) hn fun i hi w2 hb => hq i hi w2 (hs.fr.below hb).toBelow) ?_
  refine GO.fin tfine rfl trivial ?_
  exact G.ret (endK.ret rfl rfl)
def keepsM (L : List Cond) (nums : List Int) (over : Int) : Bool := !decide (firstI (fun i => failC nums over (cAt L i)) 0 L.length ≥ 0)
theorem keeps_any (lv : Value) (L : List Cond) (vs : Nat → Value) (B : Option Addr) (d : Nat) (nums : List Int) (over : Int) (w : World) (hL : ConsAt w lv L vs) (hB : RdRow w B nums.length 1 (elI nums))
    (hl : ∀ i, i < L.length → (cAt L i).1.length ≤ nums.length) (hn : nums.length ≤ 100000) (hn2 : L.length ≤ 100000) :
    Calls Try.prog 78 #[lv, .slice B nums.length d, I over] w fun e w' => e = .returned (.bool (keepsM L nums over)) ∧ Below w.heap.size w w' := by
  obtain ⟨A, c, rfl, hA, hc, hi⟩ := hL
  refine enterPlain tfine Try.func78 rfl 11 Try.ntmps78 [.c (.inp 1000 A L.length c), .c (.inp 1001 B nums.length d), .c (.k (I over))] [⟨1000, A, 2, L.length, elC L vs⟩, ⟨1001, B, 1, nums.length, elI nums⟩] rfl rfl ⟨hA, hB, trivial⟩ ⟨.inl ⟨rfl, rfl, rfl⟩, .inr ⟨nx rfl, .inl ⟨rfl, rfl, rfl⟩⟩, trivial, trivial⟩ ?_
  refine G.seqR tfine rfl trivial ?_
  refine G.seqC tfine rfl trivial ?_
  refine GO.callPlain (v := .bool (decide (firstI (fun i => failC nums over (cAt L i)) 0 L.length ≥ 0))) rfl rfl rfl rfl (fun args w => Try.call96 args w) (fun ρ w1 hs hok => ?_) ?_
  · have k4 := hs.ok 4 _ rfl
    have k5 := hs.ok 5 _ rfl
    have h4 : w1.heap[(ρ 4).1]? = some (.cells #[.slice B nums.length d] 22 (0, 0)) := by simpa [AC.conc] using k4.2.2.1
    have h5 : w1.heap[(ρ 5).1]? = some (.cells #[I over] 3 (0, 0)) := by simpa [AC.conc] using k5.2.2.1
    have hb := hs.fr.toBelow
    have := containsC_any (fun i => failC nums over (cAt L i)) (ρ 4).1 (ρ 5).1 A c L vs w1 (hA.below hb) hn2 fun i hlt w2 hb2 => by
      exact fail_any (vs i) (cAt L i) B d (ρ 4).1 (ρ 5).1 nums over w2 (((hi i hlt).below hb).below hb2) ((hB.below hb).below hb2) ((hb2.block _ (lt_of_heap h4)).trans h4) ((hb2.block _ (lt_of_heap h5)).trans h5) (hl i hlt) hn
    have e : (List.map (AV.conc ρ) [AV.c (.inp 1000 A L.length c), AV.c (.fn 97 [.own 4 0, .own 5 0])] ++ List.map (Cap.conc ρ) []).toArray = #[.slice A L.length c, .func (.func 97) #[] #[Pt (ρ 4).1, Pt (ρ 5).1]] := by
      simp [AV.conc, AC.conc, Cap.conc, Pt, k4.1, k5.1]
    rw [← e] at this
    exact this
  refine GO.fin tfine rfl trivial ?_
  exact G.ret (endK.ret rfl rfl)
end Go.Proofs.Ytafhnfcahhlanaa
/- Chapter 27: all choices of some places: an iterator. -/
set_option linter.unusedVariables false
set_option linter.unusedSimpArgs false
set_option maxRecDepth 8000
set_option maxHeartbeats 1000000
namespace Go.Proofs.Ytafhnfcahhlanaa
open Go.Sx Go.RowKit
/-! ### Bits -/
def oc1 (x : Int) : Int := IntKind.u64.wrap (bitsOp .and .u64 (x.fdiv (2 ^ (min (1 : Int).toNat IntKind.u64.bits))) 6148914691236517205 + bitsOp .and .u64 x 6148914691236517205)
def oc2 (x : Int) : Int := IntKind.u64.wrap (bitsOp .and .u64 (x.fdiv (2 ^ (min (2 : Int).toNat IntKind.u64.bits))) 3689348814741910323 + bitsOp .and .u64 x 3689348814741910323)
def oc3 (x : Int) : Int := bitsOp .and .u64 (IntKind.u64.wrap (x.fdiv (2 ^ (min (4 : Int).toNat IntKind.u64.bits)) + x)) 1085102592571150095
def oc4 (k : Int) (x : Int) : Int := IntKind.u64.wrap (x + x.fdiv (2 ^ (min k.toNat IntKind.u64.bits)))
def ocF (x : Int) : Int := bitsOp .and .i64 (IntKind.i64.wrap (oc4 32 (oc4 16 (oc4 8 (oc3 (oc2 (oc1 x))))))) 127
theorem onesCount64_any (x : Int) (w : World) : Calls Try.prog 102 #[.int .u64 x] w fun e w' => e = .returned (I (ocF x)) ∧ Below w.heap.size w w' := by
  refine enterPlain tfine Try.func102 rfl 35 Try.ntmps102 [.c (.k (.int .u64 x))] [] rfl rfl trivial ⟨trivial, trivial⟩ ?_
  refine G.seqR tfine rfl trivial ?_
  refine G.seqR tfine rfl ⟨by decide, trivial⟩ ?_
  refine G.seqR tfine rfl ⟨by decide, trivial⟩ ?_
  refine G.seqR tfine rfl ⟨by decide, trivial⟩ ?_
  refine G.seqR tfine rfl ⟨by decide, trivial⟩ ?_
  refine G.seqR tfine rfl ⟨by decide, trivial⟩ ?_
  refine G.seqR tfine rfl ⟨by decide, trivial⟩ ?_
  refine G.seqR tfine rfl trivial ?_
  exact G.ret (endK.ret rfl rfl)
theorem onesCount_any (x : Int) (w : World) : Calls Try.prog 95 #[.int .u64 x] w fun e w' => e = .returned (I (ocF x)) ∧ Below w.heap.size w w' := by
  refine enterPlain tfine Try.func95 rfl 8 Try.ntmps95 [.c (.k (.int .u64 x))] [] rfl rfl trivial ⟨trivial, trivial⟩ ?_
  refine G.seqR tfine rfl trivial ?_
  refine G.seq (G.cond (b := false) rfl (fun h => by cases h) (fun h => ?_))
  refine G.skip ?_
  refine G.seqC tfine rfl trivial ?_
  refine GO.callPlain (v := I (ocF x)) rfl rfl rfl rfl (fun args w => Try.call102 args w) (fun ρ w hs hok => onesCount64_any x w) ?_
  refine GO.fin tfine rfl trivial ?_
  exact G.ret (endK.ret rfl rfl)
def cntB (s : Nat) : Nat → Nat
  | 0 => 0
  | k + 1 => cond (s.testBit k) (cntB s k + 1) (cntB s k)
theorem ocF_all : ∀ a : Fin 256, ocF ((a.val : Nat) : Int) = ((cntB a.val 8 : Nat) : Int) := by
  decide +kernel
theorem cntB_stop (s k : Nat) (h : s < 2 ^ k) (j : Nat) : cntB s (k + j) = cntB s k := by
  induction j with
  | zero => rfl
  | succ j ih =>
    rw [← Nat.add_assoc, cntB, ih, Nat.testBit_lt_two_pow (Nat.lt_of_lt_of_le h (Nat.pow_le_pow_right (by decide) (Nat.le_add_right k j)))]
    rfl
theorem pow_min64 (s : Nat) (hs : s ≤ 64) : (2 : Int) ^ (min ((s : Nat) : Int).toNat IntKind.i64.bits) = ((2 ^ s : Nat) : Int) := by
  rw [Int.toNat_natCast, show IntKind.i64.bits = 64 from rfl, Nat.min_eq_left hs]; simp
theorem two_pow13 {i : Nat} (h : i ≤ 14) : 2 ^ i ≤ 16384 := Nat.pow_le_pow_right (n := 2) (by decide) h
theorem shl1 (i : Nat) (h : i ≤ 14) : IntKind.i64.wrap (1 * 2 ^ (min ((i : Nat) : Int).toNat IntKind.i64.bits)) = ((2 ^ i : Nat) : Int) := by
  rw [pow_min64 i (by omega), Int.one_mul, IntWalk.i64_in]
  have := two_pow13 h
  generalize 2 ^ i = p at *
  omega
/-- The test of a bit. -/
def bitC (s i : Nat) : Bool := bitsOp .and .i64 ((s : Int).fdiv (2 ^ (min ((i : Nat) : Int).toNat IntKind.i64.bits))) 1 == 1
theorem bitC_eq (s i : Nat) (hs : s < 16384) (hi : i ≤ 64) : bitC s i = s.testBit i := by
  rw [bitC, pow_min64 i hi, Int.fdiv_eq_ediv_of_nonneg _ (Int.natCast_nonneg _), ← Int.natCast_ediv]
  have hq : s / 2 ^ i < 2 ^ 64 := Nat.lt_of_le_of_lt (Nat.div_le_self _ _) (by omega)
  have : bitsOp .and .i64 ((s / 2 ^ i : Nat) : Int) 1 = ((s / 2 ^ i % 2 : Nat) : Int) := by
    show IntKind.i64.wrap (((BitVec.ofInt 64 ((s / 2 ^ i : Nat) : Int) &&& BitVec.ofInt 64 1).toNat : Nat) : Int) = _
    rw [BitVec.ofInt_natCast, show BitVec.ofInt 64 1 = BitVec.ofNat 64 1 from rfl, BitVec.toNat_and, BitVec.toNat_ofNat, BitVec.toNat_ofNat, Nat.mod_eq_of_lt hq, show 1 % 2 ^ 64 = 1 by rfl, Nat.and_one_is_mod, IntWalk.i64_in]
    generalize s / 2 ^ i = q at *
    omega
  rw [this, Nat.testBit_eq_decide_div_mod_eq]
  rw [Bool.eq_iff_iff]
  generalize s / 2 ^ i = q at *
  rw [beq_iff_eq, decide_eq_true_iff]
  omega

/-! ### Sets of places -/
def setN (s : Nat) : Nat → List Int
  | 0 => []
  | k + 1 => if s.testBit k = true then setN s k ++ [(k : Int)] else setN s k
theorem setN_cnt (s k : Nat) : (setN s k).length = cntB s k := by
  induction k with
  | zero => rfl
  | succ k ih =>
    rw [setN, cntB]
    cases h : s.testBit k with
    | true => simp [ih]
    | false => simp [ih]
theorem setN_le (s k : Nat) : (setN s k).length ≤ k := by
  induction k with
  | zero => exact Nat.le_refl _
  | succ k ih =>
    rw [setN]
    split
    · rw [List.length_append]; simp; omega
    · omega
theorem setN_oc (s n : Nat) (hn : n ≤ 8) (h : s < 2 ^ n) : ocF (s : Int) = (((setN s n).length : Nat) : Int) := by
  have h8 : s < 256 := Nat.lt_of_lt_of_le h (Nat.pow_le_pow_right (n := 2) (by decide) hn)
  rw [ocF_all ⟨s, h8⟩, setN_cnt]
  congr 1
  have := cntB_stop s n h (8 - n)
  rw [show n + (8 - n) = 8 by omega] at this
  exact this
/-- The first sets that have k places. -/
def chooseN (n k : Nat) : Nat → List (List Int)
  | 0 => []
  | s + 1 => if (setN s n).length = k then chooseN n k s ++ [setN s n] else chooseN n k s
def chooseM (n k : Nat) : List (List Int) := chooseN n k (2 ^ n)
theorem mem_chooseN {n k s S : Nat} (hs : s < S) (h : (setN s n).length = k) : setN s n ∈ chooseN n k S := by
  induction S with
  | zero => omega
  | succ S ih =>
    rw [chooseN]
    by_cases e : s = S
    · subst e
      rw [if_pos h]; simp
    · have := ih (by omega)
      split
      · exact List.mem_append_left _ this
      · exact this
theorem choose_mem {n k S : Nat} {l : List Int} (h : l ∈ chooseN n k S) : ∃ s, s < S ∧ l = setN s n ∧ l.length = k := by
  induction S with
  | zero => cases h
  | succ S ih =>
    rw [chooseN] at h
    split at h
    · rename_i hk
      rcases List.mem_append.1 h with h | h
      · obtain ⟨s, h1, h2⟩ := ih h
        exact ⟨s, by omega, h2⟩
      · have : l = setN S n := by simpa using h
        exact ⟨S, by omega, this, by rw [this]; exact hk⟩
    · obtain ⟨s, h1, h2⟩ := ih h
      exact ⟨s, by omega, h2⟩
theorem mem_setN {s n : Nat} {x : Int} (h : x ∈ setN s n) : 0 ≤ x ∧ x < n := by
  induction n with
  | zero => cases h
  | succ n ih =>
    rw [setN] at h
    split at h
    · rcases List.mem_append.1 h with h | h
      · have := ih h; omega
      · have : x = n := by simpa using h
        omega
    · have := ih h; omega
/-- What is given: a list of numbers. -/
def RelI (x : List Int) (w : World) (v : Value) : Prop := IntsAt w v x
theorem choices_iter (n k b1 b2 : Nat) (w : World) (hn : n ≤ 8) (h1 : w.heap[b1]? = some (.cells #[I n] 3 (0, 0))) (h2 : w.heap[b2]? = some (.cells #[I k] 3 (0, 0))) :
    Iter Try.prog (.func (.func 94) #[] #[Pt b1, Pt b2]) (fun x => x = b1 ∨ x = b2) (fun _ => RelI) (chooseM n k) w := by
  refine ⟨94, #[Pt b1, Pt b2], rfl, fun args w => Try.call94 args w, ?_⟩
  intro l T J Z W hrd hsz hT hZ hR hJ
  rw [show (#[.func (.yield l) #[] #[]] ++ #[Pt b1, Pt b2] : Array Value) = #[.func (.yield l) #[] #[], Pt b1, Pt b2] from by simp]
  have e1 : W.heap[b1]? = some (.cells #[I n] 3 (0, 0)) := (hrd b1 (.inl rfl)).trans h1
  have e2 : W.heap[b2]? = some (.cells #[I k] 3 (0, 0)) := (hrd b2 (.inr rfl)).trans h2
  have hTW : ∀ k ∈ T, k < W.heap.size := fun k hk => (hT k hk).1
  obtain ⟨S1, hS1⟩ : ∃ S1 : Nat → Prop, S1 = fun x => x = b1 ∨ x = b2 := ⟨_, rfl⟩
  obtain ⟨R1, hR1⟩ : ∃ R1 : World → Prop, R1 = fun w => w.heap[b1]? = some (.cells #[I n] 3 (0, 0)) ∧ w.heap[b2]? = some (.cells #[I k] 3 (0, 0)) := ⟨_, rfl⟩
  have hst1 : Steady S1 R1 := by rw [hS1, hR1]; exact (Steady.heap (.inl rfl)).and (Steady.heap (.inr rfl))
  have hlt1 : ∀ k, S1 k → k < W.heap.size := by rw [hS1]; exact fun k hk => hk.elim (fun e => e ▸ lt_of_heap e1) (fun e => e ▸ lt_of_heap e2)
  have hST : ∀ k ∈ T, ¬ S1 k := by rw [hS1]; exact fun k hk => (hT k hk).2
  refine enterSay T [.c (.k (.func (.yield l) #[] #[])), .c (.k (Pt b1)), .c (.k (Pt b2))] [(1, .say S1 R1), (2, .say Z (J [] Z))] Try.func94 rfl 36 Try.ntmps94 rfl rfl ⟨trivial, trivial, trivial, trivial⟩
    ⟨⟨(by rw [hR1]; exact ⟨e1, e2⟩), hlt1, hst1⟩, ⟨fun h => h.elim, fun h => h.elim, trivial⟩, ⟨hJ, hZ, hR.1 _ _⟩, trivial, trivial⟩ ?_
  refine G.seqC tfine rfl trivial ?_
  refine GO.steps (Steps.loadK tfine 1 [I n] rfl rfl rfl rfl rfl (fun w h => by rw [hR1] at h; exact h.1) rfl rfl) ?_
  refine GO.fin tfine rfl ⟨by omega, trivial⟩ ?_
  rw [shl1 n (by omega)]
  refine G.block (G.loop (fun z : Nat × (Nat → Prop) => St.of [(0, .v (.c (.k (.func (.yield l) #[] #[])))), (1, .v (.c (.k (Pt b1)))), (2, .v (.c (.k (Pt b2)))), (8, .v (.c (.k (I (2 ^ n : Nat))))), (9, .v (.c (.k (I z.1))))] [(1, .say S1 R1), (2, .say z.2 (J (chooseN n k z.1) z.2))])
    (fun z => z.1 ≤ 2 ^ n) (fun z => 2 ^ n - z.1) (0, Z) (Nat.zero_le _) (St.le_of rfl ⟨⟨_, rfl, Blk.le_refl _⟩, ⟨_, rfl, Blk.le_refl _⟩, trivial⟩ ⟨rfl, rfl, rfl, rfl, rfl, trivial⟩) ?_)
  rintro ⟨s, Z⟩ hs
  simp only at hs
  have hp8 : 2 ^ n ≤ 256 := Nat.pow_le_pow_right (n := 2) (by decide) hn
  refine G.seqR tfine rfl trivial ?_
  refine G.seq ?_
  refine G.cond (b := decide ((s : Int) < ((2 ^ n : Nat) : Int))) rfl (fun h3 => ?_) (fun h3 => ?_)
  rotate_left
  · have h3 := of_decide_eq_false h3
    have : s = 2 ^ n := by omega
    subst this
    refine G.exit ?_
    refine ⟨.inr rfl, fun ρ a w' hs => ⟨_, results_run tfine hs rfl, ⟨_, rfl⟩, ?_, Z, ?_⟩⟩
    · have := hs.mem.fr
      simp only [borT_snd] at this
      exact this
    · obtain ⟨j1, j2, _⟩ := hs.mem.ok 2 _ rfl
      exact ⟨j1, j2⟩
  have h3 := of_decide_eq_true h3
  have hlt : s < 2 ^ n := by omega
  refine G.skip ?_
  refine G.seq ?_
  refine G.block ?_
  refine G.seqR tfine rfl trivial ?_
  refine G.seq ?_
  refine G.seqDraw hmix [0, 1, 3, 0, 15] [] rfl rfl rfl ?_
  refine GD.more tfine 0 rfl rfl trivial ?_
  have hsu : IntKind.u64.wrap (s : Int) = (s : Int) := by rw [IntKind.wrap_u64]; omega
  rw [hsu]
  refine GD.call (v := I (setN s n).length) 2 rfl rfl rfl rfl rfl (fun args w => Try.call95 args w) (fun m' hle ρ w1 hs _ => by have := onesCount_any (s : Int) w1; rw [setN_oc s n hn hlt] at this; exact this) ?_
  refine GD.stepF 3 rfl (Steps.loadK tfine 1 [I k] rfl rfl rfl rfl rfl (fun w h => by rw [hR1] at h; exact h.2) rfl rfl) rfl ?_
  refine GD.fin tfine 4 rfl rfl trivial ?_
  refine G.cond (b := (((setN s n).length : Nat) : Int) != (k : Int)) rfl (fun h4 => ?_) (fun h4 => ?_)
  · have h4 : (setN s n).length ≠ k := by
      have h4 : ¬ (((setN s n).length : Nat) : Int) = (k : Int) := by simpa using h4
      omega
    refine G.exit ?_
    refine G.reg tfine rfl trivial ?_
    rw [IntWalk.i64_in ((s : Int) + 1) (by omega)]
    refine ⟨(s + 1, Z), (by show s + 1 ≤ 2 ^ n; omega), (by show 2 ^ n - (s + 1) < 2 ^ n - s; omega), ?_⟩
    have e : chooseN n k (s + 1) = chooseN n k s := by rw [chooseN, if_neg h4]
    simp only [e]
    exact St.le_of rfl ⟨⟨_, rfl, Blk.le_refl _⟩, ⟨_, rfl, Blk.le_refl _⟩, trivial⟩ ⟨rfl, rfl, rfl, rfl, by simp [up, I], trivial⟩
  have h4 : (setN s n).length = k := by
    have h4 : (((setN s n).length : Nat) : Int) = (k : Int) := by simpa using h4
    omega
  refine G.skip ?_
  refine G.seqR tfine rfl trivial ?_
  refine G.seq ?_
  refine G.seqC tfine rfl trivial ?_
  refine GO.steps (Steps.loadK tfine 1 [I n] rfl rfl rfl rfl rfl (fun w h => by rw [hR1] at h; exact h.1) rfl rfl) ?_
  refine GO.fin tfine rfl trivial ?_
  refine G.newNil 29 1 (elI []) rfl ?_
  refine G.block (G.loop (fun z : Nat × Nat => St.of [(0, .v (.c (.k (.func (.yield l) #[] #[])))), (1, .v (.c (.k (Pt b1)))), (2, .v (.c (.k (Pt b2)))), (8, .v (.c (.k (I (2 ^ n : Nat))))), (9, .v (.c (.k (I s)))), (4, .v (.c (.k (I s)))), (5, .v (.c (accV 29 1 (setN s z.1).length z.2))), (17, .v (.c (.k (I n)))), (18, .v (.c (.k (I z.1))))] [(1, .say S1 R1), (2, .say Z (J (chooseN n k s) Z)), (29, accB 3 1 (setN s z.1).length z.2 (elI (setN s z.1)))])
    (fun z => z.1 ≤ n ∧ (setN s z.1).length ≤ z.2) (fun z => n - z.1) (0, 0) ⟨Nat.zero_le _, Nat.le_refl _⟩ (St.le_of rfl ⟨⟨_, rfl, Blk.le_refl _⟩, ⟨_, rfl, Blk.le_refl _⟩, ⟨_, rfl, Blk.le_refl _⟩, trivial⟩ ⟨rfl, rfl, rfl, rfl, rfl, rfl, rfl, rfl, rfl, trivial⟩) ?_)
  rintro ⟨i, cp⟩ ⟨hi, hcp⟩
  simp only at hi hcp
  have hin := setN_le s i
  refine G.seqR tfine rfl trivial ?_
  refine G.seq ?_
  refine G.cond (b := decide ((i : Int) < (n : Int))) rfl (fun h5 => ?_) (fun h5 => ?_)
  rotate_left
  · have h5 := of_decide_eq_false h5
    have : i = n := by omega
    subst this
    refine G.exit ?_
    have e : chooseN i k (s + 1) = chooseN i k s ++ [setN s i] := by rw [chooseN, if_pos h4]
    have hmem : setN s i ∈ chooseM i k := mem_chooseN hlt h4
    rcases hL : setN s i with _ | ⟨x, L⟩
    · rw [hL] at hmem e
      refine G.seq ?_
      refine G.regC tfine rfl trivial ?_
      refine GO.weaken (st' := St.of [(0, .v (.c (.k (.func (.yield l) #[] #[])))), (1, .v (.c (.k (Pt b1)))), (2, .v (.c (.k (Pt b2)))), (8, .v (.c (.k (I (2 ^ i : Nat))))), (9, .v (.c (.k (I s)))), (31, .v (.c (.k (.func (.yield l) #[] #[])))), (32, .v (.c (.k (.slice none 0 0))))] [(1, .say S1 R1), (2, .say Z (J (chooseN i k s) Z))]) (St.le_of rfl ⟨⟨_, rfl, Blk.le_refl _⟩, ⟨_, rfl, Blk.le_refl _⟩, trivial⟩ ⟨rfl, rfl, rfl, rfl, rfl, rfl, rfl, trivial⟩) ?_
      refine GO.yield (av := .c (.k (.slice none 0 0))) (xs := chooseM i k) 2 (chooseN i k s) [] Z hR hmem rfl hTW rfl rfl rfl rfl rfl rfl rfl rfl (calm_of ⟨.inr ⟨(by show (1 : Nat) < 1000; decide), hST⟩, .inl rfl, trivial⟩) (fun ρ w1 hs _ => ⟨⟨none, 0, rfl, RdRow.nil _ _ _ _, fun h => absurd h (Nat.lt_irrefl 0)⟩, fun k hk => absurd hk.1 (Nat.lt_irrefl 0)⟩) fun Z' => ?_
      refine GO.fin tfine rfl trivial ?_
      refine G.cond_false rfl ?_
      refine G.skip ?_
      refine G.reg tfine rfl trivial ?_
      rw [IntWalk.i64_in ((s : Int) + 1) (by omega)]
      refine ⟨(s + 1, Z'), (by show s + 1 ≤ 2 ^ i; omega), (by show 2 ^ i - (s + 1) < 2 ^ i - s; omega), ?_⟩
      simp only [e]
      exact St.le_of rfl ⟨⟨_, rfl, Blk.le_refl _⟩, ⟨_, rfl, Blk.le_refl _⟩, trivial⟩ ⟨rfl, rfl, rfl, rfl, by simp [up, I], trivial⟩
    · rw [hL] at hmem e
      have hcp : L.length + 1 ≤ cp := by rw [hL] at hcp; exact hcp
      refine G.seq ?_
      refine G.regC tfine rfl trivial ?_
      refine GO.weaken (st' := St.of [(0, .v (.c (.k (.func (.yield l) #[] #[])))), (1, .v (.c (.k (Pt b1)))), (2, .v (.c (.k (Pt b2)))), (8, .v (.c (.k (I (2 ^ i : Nat))))), (9, .v (.c (.k (I s)))), (31, .v (.c (.k (.func (.yield l) #[] #[])))), (32, .v (.c (.slc 29 0 1 (L.length + 1) cp)))] [(1, .say S1 R1), (2, .say Z (J (chooseN i k s) Z)), (29, .arr 3 1 (L.length + 1) (elI (x :: L)) ((cp - (L.length + 1)) * 1))]) (St.le_of rfl ⟨⟨_, rfl, Blk.le_refl _⟩, ⟨_, rfl, Blk.le_refl _⟩, ⟨_, rfl, Blk.le_refl _⟩, trivial⟩ ⟨rfl, rfl, rfl, rfl, rfl, rfl, rfl, trivial⟩) ?_
      refine GO.freezeArr 29 32 rfl rfl (Nat.le_refl _) fun g hg => ?_
      have hgW : W.heap.size ≤ g := by
        rcases hg with hg | hg
        · exact hg
        · have := (borT_mem hg).1
          simp only at this
          omega
      refine GO.weaken (st' := St.of [(0, .v (.c (.k (.func (.yield l) #[] #[])))), (1, .v (.c (.k (Pt b1)))), (2, .v (.c (.k (Pt b2)))), (8, .v (.c (.k (I (2 ^ i : Nat))))), (9, .v (.c (.k (I s)))), (31, .v (.c (.k (.func (.yield l) #[] #[])))), (32, .v (.c (.k (.slice (some ⟨g, 0, none⟩) (L.length + 1) cp))))] [(1, .say S1 R1), (2, .say Z (J (chooseN i k s) Z)), (29, .say (· = g) fun w => RdRow w (some ⟨g, 0, none⟩) (L.length + 1) 1 (elI (x :: L)))]) (St.le_of rfl ⟨⟨_, rfl, Blk.le_refl _⟩, ⟨_, rfl, Blk.le_refl _⟩, ⟨_, rfl, Blk.le_refl _⟩, trivial⟩ ⟨rfl, rfl, rfl, rfl, rfl, rfl, rfl, trivial⟩) ?_
      have hgT : ∀ k ∈ T, ¬ k = g := fun k hk e => by have := hTW k hk; omega
      refine GO.yield (av := .c (.k (.slice (some ⟨g, 0, none⟩) (L.length + 1) cp))) (xs := chooseM i k) 2 (chooseN i k s) (x :: L) Z hR hmem rfl hTW rfl rfl rfl rfl rfl rfl rfl rfl (calm_of ⟨.inr ⟨(by show (1 : Nat) < 1000; decide), hST⟩, .inl rfl, .inr ⟨(by show (29 : Nat) < 1000; decide), hgT⟩, trivial⟩) (fun ρ w1 hs _ => ?_) fun Z' => ?_
      · obtain ⟨f1, f2⟩ := hs.sayAt (X := 29) rfl
        refine ⟨⟨_, _, rfl, f1, fun _ => hcp⟩, fun k hk => ?_⟩
        obtain ⟨_, a, ea, rfl⟩ := hk
        cases ea
        exact ⟨(f2 g rfl).1, fun hk => hgT _ hk rfl, (f2 g rfl).2⟩
      refine GO.fin tfine rfl trivial ?_
      refine G.cond_false rfl ?_
      refine G.skip ?_
      refine G.reg tfine rfl trivial ?_
      rw [IntWalk.i64_in ((s : Int) + 1) (by omega)]
      refine ⟨(s + 1, Z'), (by show s + 1 ≤ 2 ^ i; omega), (by show 2 ^ i - (s + 1) < 2 ^ i - s; omega), ?_⟩
      simp only [e]
      exact St.le_of rfl ⟨⟨_, rfl, Blk.le_refl _⟩, ⟨_, rfl, Blk.le_refl _⟩, trivial⟩ ⟨rfl, rfl, rfl, rfl, by simp [up, I], trivial⟩
  have h5 := of_decide_eq_true h5
  have hlt5 : i < n := by omega
  refine G.skip ?_
  refine G.seq ?_
  refine G.block ?_
  refine G.seqR tfine rfl trivial ?_
  refine G.seqR tfine rfl ⟨by omega, trivial⟩ ?_
  refine G.cond (b := bitC s i) rfl (fun h6 => ?_) (fun h6 => ?_)
  · rw [bitC_eq s i (by omega) (by omega)] at h6
    have e : setN s (i + 1) = setN s i ++ [(i : Int)] := by rw [setN, if_pos h6]
    refine G.region_lit ?_
    refine GO.moveAny tfine rfl (.inl rfl) rfl rfl rfl ?_
    refine GO.more tfine rfl trivial ?_
    refine GO.appendAccB (n := (setN s i).length) (c := cp) (el := elI (setN s i)) [I i] [(0, .v (.c (.k (.func (.yield l) #[] #[])))), (1, .v (.c (.k (Pt b1)))), (2, .v (.c (.k (Pt b2)))), (8, .v (.c (.k (I (2 ^ n : Nat))))), (9, .v (.c (.k (I s)))), (4, .v (.c (.k (I s)))), (17, .v (.c (.k (I n)))), (18, .v (.c (.k (I i))))] [(1, .say S1 R1), (2, .say Z (J (chooseN n k s) Z))] apT35 rfl rfl rfl rfl rfl rfl rfl rfl rfl rfl (fun u hu => by simp at hu; subst hu; rfl)
      (St.le_of rfl ⟨⟨_, rfl, Blk.le_refl _⟩, ⟨_, rfl, Blk.le_refl _⟩, trivial⟩ ⟨rfl, rfl, rfl, rfl, rfl, rfl, rfl, rfl, trivial⟩) (subM.fr ⟨rfl, nx rfl, rfl, nx rfl, trivial⟩) (fun k hk => rfl) (by unfold maxLen; omega) (by omega) fun c' hc' => ?_
    refine GO.fin tfine rfl trivial ?_
    refine G.reg tfine rfl trivial ?_
    rw [IntWalk.i64_in ((i : Int) + 1) (by omega)]
    refine ⟨(i + 1, c'), ⟨by simp only; omega, by simp only [e, List.length_append, List.length_cons, List.length_nil]; exact hc'⟩, (by show n - (i + 1) < n - i; omega), ?_⟩
    simp only [e, List.length_append, List.length_cons, List.length_nil]
    exact St.le_of rfl ⟨⟨_, rfl, Blk.le_refl _⟩, ⟨_, rfl, Blk.le_refl _⟩, ⟨_, rfl, rfl, rfl, Nat.le_refl _, fun j hj => (elI_snoc _ _ j hj).symm, Nat.le_refl _⟩, trivial⟩ ⟨rfl, rfl, rfl, rfl, rfl, rfl, rfl, rfl, by simp [up, I], trivial⟩
  rw [bitC_eq s i (by omega) (by omega)] at h6
  have e : setN s (i + 1) = setN s i := by rw [setN, if_neg (by simpa using h6)]
  refine G.skip ?_
  refine G.reg tfine rfl trivial ?_
  rw [IntWalk.i64_in ((i : Int) + 1) (by omega)]
  refine ⟨(i + 1, cp), ⟨by simp only; omega, by simp only [e]; exact hcp⟩, (by show n - (i + 1) < n - i; omega), ?_⟩
  simp only [e]
  exact St.le_of (by generalize setN s i = q; cases q <;> rfl) ⟨⟨_, rfl, Blk.le_refl _⟩, ⟨_, rfl, Blk.le_refl _⟩, ⟨_, rfl, Blk.le_refl _⟩, trivial⟩ ⟨rfl, rfl, rfl, rfl, rfl, rfl, rfl, rfl, by simp [up, I], trivial⟩
end Go.Proofs.Ytafhnfcahhlanaa
/- Chapter 27: corners and rays, models; functions that answer with closures. -/
set_option linter.unusedVariables false
set_option linter.unusedSimpArgs false
set_option maxRecDepth 8000
set_option maxHeartbeats 1000000
namespace Go.Proofs.Ytafhnfcahhlanaa
open Go.Sx Go.RowKit
theorem apLL : ApT Try.prog 23 22 1 24 (.slice none 0 0) := ⟨by kernel_rfl, by kernel_rfl, rfl, by decide⟩
theorem apCo : ApT Try.prog 59 95 2 32 (.agg #[.slice none 0 0, I 0]) := ⟨by kernel_rfl, by kernel_rfl, rfl, by decide⟩
theorem choices_any (lo : Nat) (n k : Int) (w : World) (hlo : lo ≤ w.heap.size) : Calls Try.prog 75 #[I n, I k] w fun e w' => Box2 94 (I n) (I k) 3 3 lo w w' e := by
  refine enterSay [] [.c (.k (I n)), .c (.k (I k))] [] Try.func75 rfl 6 Try.ntmps75 rfl rfl ⟨trivial, trivial, trivial⟩ trivial ?_
  refine G.seqR tfine rfl trivial ?_
  refine G.seqR tfine rfl trivial ?_
  exact G.ret (retBox2 tfine rfl rfl rfl rfl hlo)
theorem corners_any (lo : Nat) (lv : Value) (hlv : ∃ A n c, lv = .slice A n c) (n : Int) (w : World) (hlo : lo ≤ w.heap.size) : Calls Try.prog 33 #[lv, I n] w fun e w' => Box2 74 lv (I n) 59 3 lo w w' e := by
  obtain ⟨A, m, c, rfl⟩ := hlv
  refine enterSay [] [.c (.k (.slice A m c)), .c (.k (I n))] [] Try.func33 rfl 6 Try.ntmps33 rfl rfl ⟨trivial, trivial, trivial⟩ trivial ?_
  refine G.seqR tfine rfl trivial ?_
  refine G.seqR tfine rfl trivial ?_
  exact G.ret (retBox2 tfine rfl rfl rfl rfl hlo)
theorem rays_any (lo : Nat) (lv : Value) (hlv : ∃ A n c, lv = .slice A n c) (n : Int) (w : World) (hlo : lo ≤ w.heap.size) : Calls Try.prog 36 #[lv, I n] w fun e w' => Box2 81 lv (I n) 59 3 lo w w' e := by
  obtain ⟨A, m, c, rfl⟩ := hlv
  refine enterSay [] [.c (.k (.slice A m c)), .c (.k (I n))] [] Try.func36 rfl 6 Try.ntmps36 rfl rfl ⟨trivial, trivial, trivial⟩ trivial ?_
  refine G.seqR tfine rfl trivial ?_
  refine G.seqR tfine rfl trivial ?_
  exact G.ret (retBox2 tfine rfl rfl rfl rfl hlo)
/-- The numbers up to n, as a constant. -/
def plV (n : Nat) (g : Option Addr × Nat) : Value := .slice g.1 n g.2
theorem places_any (n : Nat) (w : World) (hn : n ≤ 1000000) : Calls Try.prog 77 #[I n] w fun e w' => ∃ g : Option Addr × Nat, e = .returned (plV n g) ∧ Below w.heap.size w w' ∧ RdV w' (plV n g) n 1 (elI (placesL n)) ∧ (∀ k, sb (plV n g) k → w.heap.size ≤ k ∧ k < w'.heap.size) ∧ Steady (sb (plV n g)) (fun w => RdV w (plV n g) n 1 (elI (placesL n))) := by
  rcases n with _ | n
  · refine (places0_any w).mono ?_
    rintro e w' ⟨rfl, hb⟩
    exact ⟨(none, 0), rfl, hb, ⟨_, _, rfl, RdRow.nil _ _ _ _, fun h => absurd h (Nat.lt_irrefl 0)⟩, fun k hk => absurd hk.1 (Nat.lt_irrefl 0), steady_rdv⟩
  · refine (placesC_any (n + 1) w (Nat.succ_pos _) hn).mono ?_
    rintro e w' ⟨⟨b, c, rfl, h1, h2, h3⟩, hb⟩
    refine ⟨(some ⟨b, 0, none⟩, c), rfl, hb, ⟨_, _, rfl, fun _ => ⟨b, 0, rfl, h3.rd⟩, fun _ => h1⟩, ?_, steady_rdv⟩
    rintro k ⟨_, a, e, rfl⟩
    cases e
    refine ⟨h2, ?_⟩
    exact h3.rd.1
/-! ### Corners -/
def rowsM (L : List Cond) (set : List Int) : List (List Int) := set.map fun i => (cAt L i.toNat).1 ++ [(cAt L i.toNat).2]
def overM (L : List Cond) (n : Nat) (set : List Int) : Int := detC (rowsM L set) (placesL n)
def numM (rows : List (List Int)) (n : Nat) (q : Int) (k : Nat) : Int := W (detC rows ((placesL n).set k (n : Int)) * q)
def numsM (rows : List (List Int)) (n : Nat) (q : Int) : List Int := (List.range n).map (numM rows n q)
abbrev Rat := List Int × Int
def cornN (L : List Cond) (n : Nat) (set : List Int) : List Int := numsM (rowsM L set) n (W ((absW (overM L n set)).tdiv (overM L n set)))
def cornerM (L : List Cond) (n : Nat) (set : List Int) : Option Rat :=
  if overM L n set = 0 then none
  else if keepsM L (cornN L n set) (absW (overM L n set)) = true then some (lowL (cornN L n set) (absW (overM L n set)), lowO (cornN L n set) (absW (overM L n set)))
  else none
def cornersM (L : List Cond) (n : Nat) : List Rat := (chooseM L.length n).filterMap (cornerM L n)
/-- Ratios in memory, made after lo blocks. -/
def RelR (lo : Nat) (x : Rat) (w : World) (v : Value) : Prop := (∃ nv, v = .agg #[nv, I x.2] ∧ IntsAt w nv x.1) ∧ ∀ k, vbk v k → lo ≤ k
def RelL (lo : Nat) (x : List Int) (w : World) (v : Value) : Prop := IntsAt w v x ∧ ∀ k, vbk v k → lo ≤ k
theorem steady_ints {v : Value} {l : List Int} : Steady (sb v) (fun w => IntsAt w v l) := by
  rintro w1 w2 h1 h2 ⟨A, c, rfl, h3, h4⟩
  exact ⟨A, c, rfl, steady_row (cap := c) w1 w2 h1 h2 h3, h4⟩
theorem IntsAt.of {w : World} {v : Value} {l : List Int} {el : Nat → List Value} {n : Nat} (h : RdV w v n 1 el) (hn : n = l.length) (he : ∀ i, i < l.length → el i = elI l i) : IntsAt w v l := by
  subst hn
  obtain ⟨A, c, rfl, h1, h2⟩ := h
  exact ⟨A, c, rfl, h1.congr fun i hi => (he i hi).symm, h2⟩
/-- The code of the rounds. -/
def bodyR : Code → Code
  | .rangeFunc _ _ _ b => b
  | .block _ c => bodyR c
  | .seq _ y => bodyR y
  | c => c
end Go.Proofs.Ytafhnfcahhlanaa
/- Chapter 27: a round of the corners. -/
set_option linter.unusedVariables false
set_option linter.unusedSimpArgs false
set_option maxRecDepth 8000
set_option maxHeartbeats 2000000
namespace Go.Proofs.Ytafhnfcahhlanaa
open Go.Sx Go.RowKit
noncomputable def body74 : Code := bodyR (Try.f74.body.getD .skip)
/-- What a round leaves. -/
def roundK {α : Type} (w : World) (S2 : Nat → Prop) (R2 : World → Prop) (J : List α → (Nat → Prop) → World → Prop) (s : List α) (Z : Nat → Prop) : Exit → St → Prop := fun e st => e = .normal ∧ ∃ Zn, st.m 2 = some (.say Zn (J s Zn)) ∧ (∀ k, Zn k → Z k ∨ w.heap.size ≤ k) ∧ st.m 1 = some (.say S2 R2)
theorem rowsM_len (L : List Cond) (set : List Int) : (rowsM L set).length = set.length := by simp [rowsM]
theorem rowsM_get (L : List Cond) (set : List Int) (i : Nat) (h : i < set.length) : (rowsM L set).getD i [] = (cAt L (set.getD i 0).toNat).1 ++ [(cAt L (set.getD i 0).toNat).2] := by
  simp [rowsM, List.getD_eq_getElem?_getD, List.getElem?_eq_getElem h]
theorem cAt_mem {L : List Cond} {i : Nat} (h : i < L.length) : cAt L i ∈ L := by
  simp [cAt, List.getD_eq_getElem?_getD, List.getElem?_eq_getElem h]
theorem rowsM_rows (L : List Cond) (n : Nat) (set : List Int) (hrow : ∀ c ∈ L, c.1.length = n) (hset : ∀ x ∈ set, 0 ≤ x ∧ x < L.length) : ∀ r ∈ rowsM L set, r.length = n + 1 := by
  intro r hr
  obtain ⟨x, hx, rfl⟩ := List.mem_map.1 hr
  have := hset x hx
  have h2 := hrow _ (cAt_mem (L := L) (i := x.toNat) (by omega))
  rw [List.length_append, h2]; rfl
theorem mem_placesL {n : Nat} {c : Int} (h : c ∈ placesL n) : 0 ≤ c ∧ c < n := by
  simp only [placesL, List.mem_map, List.mem_range] at h
  obtain ⟨k, hk, rfl⟩ := h
  omega
theorem matM {L : List Cond} {set : List Int} {A : Option Addr} {rc : Nat} {us : Nat → Value} {w : World} (h1 : RdRow w A set.length 1 (fun j => [us j])) (h2 : ∀ j, j < set.length → IntsAt w (us j) ((rowsM L set).getD j [])) (hc : set.length ≤ rc) : MatAt w (.slice A set.length rc) (rowsM L set) us :=
  ⟨A, rc, by rw [rowsM_len], by rw [rowsM_len]; exact h1, fun _ => by rw [rowsM_len]; exact hc, fun i hi => h2 i (by rw [rowsM_len] at hi; exact hi)⟩
theorem detR (L : List Cond) (n : Nat) (set cols : List Int) (A C : Option Addr) (rc cc : Nat) (us : Nat → Value) (w : World) (h1 : RdRow w A set.length 1 (fun j => [us j])) (h2 : ∀ j, j < set.length → IntsAt w (us j) ((rowsM L set).getD j [])) (hc : set.length ≤ rc) (hC : RdRow w C n 1 (elI cols)) (hcl : cols.length = n) (hlen : set.length = n) (hn : n ≤ 8)
    (hin : ∀ c ∈ cols, 0 ≤ c ∧ c ≤ n) (hr : ∀ r ∈ rowsM L set, r.length = n + 1) :
    Calls Try.prog 76 #[.slice A set.length rc, .slice C n cc] w fun e w' => e = .returned (I (detC (rowsM L set) cols)) ∧ Below w.heap.size w w' := by
  have := det_any (rowsM L set) cols (.slice A set.length rc) us C cc w (matM h1 h2 hc) (by rw [hcl]; exact hC) (by rw [hcl, rowsM_len]; omega) (by rw [rowsM_len]; omega) (fun c hc => ⟨(hin c hc).1, fun r hr' => by have := hr r hr'; have := (hin c hc).2; omega⟩) (fun r hr' => by have := hr r hr'; omega)
  rw [hcl] at this
  exact this
theorem numsM_len (rows : List (List Int)) (n : Nat) (q : Int) : (numsM rows n q).length = n := by simp [numsM]
theorem numsM_take (rows : List (List Int)) (n : Nat) (q : Int) (k : Nat) (h : k < n) : (numsM rows n q).take (k + 1) = (numsM rows n q).take k ++ [numM rows n q k] := by
  rw [List.take_succ_eq_append_getElem (by rw [numsM_len]; exact h)]
  congr 2
  simp [numsM]
theorem numsM_snoc (rows : List (List Int)) (n : Nat) (q : Int) (k : Nat) (h : k < n) : ∀ j, j < k + 1 → elI ((numsM rows n q).take (k + 1)) j = elN (elI ((numsM rows n q).take k)) k [I (numM rows n q k)] j := fun j hj => by
  have hl : ((numsM rows n q).take k).length = k := by rw [List.length_take, numsM_len]; omega
  have := elI_snoc ((numsM rows n q).take k) (numM rows n q k) j (by rw [hl]; exact hj)
  rw [hl] at this
  rw [numsM_take rows n q k h, this]
theorem elI_set (l : List Int) (k : Nat) (v : Int) (j : Nat) (hj : j < l.length) : elI (l.set k v) j = if j = k then [I v] else elI l j := by
  simp only [elI, List.getD_eq_getElem?_getD, List.getElem?_set]
  by_cases e : k = j
  · subst e; simp [hj]
  · rw [if_neg e, if_neg (Ne.symm e)]
theorem set_in {n k : Nat} : ∀ c ∈ (placesL n).set k (n : Int), 0 ≤ c ∧ c ≤ n := by
  intro c hc
  rcases List.mem_or_eq_of_mem_set hc with h | h
  · have := mem_placesL h; omega
  · omega
theorem corner_round (L : List Cond) (AL A5 : Option Addr) (cL c5 : Nat) (vs : Nat → Value) (n b1 b2 g3 l0 l lo : Nat) (W2 : World) (T : List Nat) (J : List Rat → (Nat → Prop) → World → Prop) (s : List Rat) (Z S2 : Nat → Prop) (R2 : World → Prop) (set : List Int)
    (hb1 : ∀ w, R2 w → w.heap[b1]? = some (.cells #[.slice AL L.length cL] 59 (0, 0))) (hb2 : ∀ w, R2 w → w.heap[b2]? = some (.cells #[I n] 3 (0, 0))) (hg3 : ∀ w, R2 w → w.heap[g3]? = some (.cells #[.func (.yield l0) #[] #[]] 79 (0, 0)))
    (hcon : ∀ w, R2 w → ConsAt w (.slice AL L.length cL) L vs) (hSL : ∀ k, sb (.slice AL L.length cL) k → S2 k) (hTs : ∀ k ∈ T, ¬ S2 k) (hT5 : ∀ k ∈ T, ¬ sb (.slice A5 set.length c5) k) (hTW : ∀ k ∈ T, k < W2.heap.size)
    (hRd : Rounds Try.prog l0 T (RelR lo) (cornersM L n) J W2) (hlo : lo ≤ W2.heap.size) (hL : L.length ≤ 8) (hn : n ≤ 8) (hrow : ∀ c ∈ L, c.1.length = n) (hlen : set.length = n) (hin : ∀ x ∈ set, 0 ≤ x ∧ x < L.length) (hmem : set ∈ chooseM L.length n)
    (hg : overM L n set ≠ 0 → keepsM L (cornN L n set) (absW (overM L n set)) = true → gL (cornN L n set) (absW (overM L n set)) ≠ 0) :
    G Try.prog ⟨W2, borT 1000 T, 88, some l, []⟩ (roundK W2 S2 R2 J (s ++ (cornerM L n set).toList) Z) body74
      (St.of [(1, .v (.c (.k (Pt b1)))), (2, .v (.c (.k (Pt b2)))), (3, .v (.c (.k (Pt g3)))), (4, .v (.c (.k (.slice A5 set.length c5))))] [(1, .say S2 R2), (2, .say Z (J s Z)), (5, .say (sb (.slice A5 set.length c5)) (fun w => IntsAt w (.slice A5 set.length c5) set))]) := by
  refine G.block (id := 1) ?_
  refine G.seqR tfine rfl trivial ?_
  refine G.seq ?_
  refine G.seqR tfine rfl trivial ?_
  refine G.openSay (el := elI set) (sz := 1) 5 702 17 rfl (fun w h => by obtain ⟨A', c', e, h1, _⟩ := h; cases e; exact h1) (fun k hk => hk) rfl rfl rfl ?_
  refine G.newNil 838 1 (fun _ => [undef]) rfl ?_
  refine G.tellF 839 (fun w => ∀ j, j < 0 → IntsAt w undef ((rowsM L set).getD j [])) (fun w j hj => by omega) rfl ?_
  refine G.block (G.loop (fun z : Nat × Nat × (Nat → Value) × (Nat → Prop) => St.of [(1, .v (.c (.k (Pt b1)))), (2, .v (.c (.k (Pt b2)))), (3, .v (.c (.k (Pt g3)))), (5, .v (.c (accV 838 1 z.1 z.2.1))), (17, .v (.c (.inp 702 A5 set.length c5))), (18, .v (.c (.k (I set.length)))), (19, .v (.c (.k (I z.1))))]
      [(1, .say S2 R2), (2, .say Z (J s Z)), (702, .ro 1 set.length (elI set)), (838, accB 22 1 z.1 z.2.1 (fun j => [z.2.2.1 j])), (839, .say z.2.2.2 (fun w => ∀ j, j < z.1 → IntsAt w (z.2.2.1 j) ((rowsM L set).getD j [])))])
    (fun z => z.1 ≤ set.length ∧ z.1 ≤ z.2.1) (fun z => set.length - z.1) (0, 0, (fun _ => undef), fun _ => False) ⟨Nat.zero_le _, Nat.le_refl _⟩ (St.le_of rfl ⟨⟨_, rfl, Blk.le_refl _⟩, ⟨_, rfl, Blk.le_refl _⟩, ⟨_, rfl, Blk.le_refl _⟩, ⟨_, rfl, Blk.le_refl _⟩, ⟨_, rfl, Blk.le_refl _⟩, trivial⟩ ⟨rfl, rfl, rfl, rfl, rfl, rfl, rfl, trivial⟩) ?_)
  rintro ⟨i, cp, us, SR⟩ ⟨hi, hcp⟩
  simp only at hi hcp
  refine G.seqR tfine rfl trivial ?_
  refine G.seq ?_
  refine G.cond (b := decide ((i : Int) < (set.length : Int))) rfl (fun h2 => ?_) (fun h2 => ?_)
  · have h2 := of_decide_eq_true h2
    have hlt : i < set.length := by omega
    have hn1 : 1 ≤ n := by omega
    refine G.skip ?_
    refine G.seq ?_
    refine G.block ?_
    refine G.seqR tfine rfl ⟨by omega, by omega, by omega, trivial⟩ ?_
    rw [Int.toNat_natCast]
    obtain ⟨x, hx⟩ : ∃ x, x = set.getD i 0 := ⟨_, rfl⟩
    have hxm : x ∈ set := by rw [hx, List.getD_eq_getElem?_getD, List.getElem?_eq_getElem hlt]; exact List.getElem_mem hlt
    obtain ⟨q, hq⟩ : ∃ q : Nat, x = (q : Int) := ⟨x.toNat, by have := hin x hxm; omega⟩
    have hql : q < L.length := by have := hin x hxm; omega
    have hrq : (rowsM L set).getD i [] = (cAt L q).1 ++ [(cAt L q).2] := by rw [rowsM_get L set i hlt, ← hx, hq]; rfl
    have hcq : (cAt L q).1.length = n := hrow _ (cAt_mem hql)
    rw [← hx, hq]
    rcases i with _ | i
    · apply G.drawC (ch := fun j => match j with | 6 => some (ownF 729 3 n 1 (elI (cAt L q).1)) | 13 => some (conS 729 36 (n + 1) 1 (elN (elI (cAt L q).1) n [I (cAt L q).2])) | 15 => some (accS 838 38 39 0 1 22 (fun j => [us j]) (n + 1) 1 (elN (elI (cAt L q).1) n [I (cAt L q).2])) | _ => none)
        (cls := [0, 0, 0, 6, 14, 30, 62, 0, 0, 384, 896, 1920, 3968, 8190, 16382, 32767, 65535]) (X := [(1, 721), (6, 729), (7, 722), (13, 36), (13, 729), (15, 38), (15, 838), (15, 39)]) hmix rfl rfl rfl
      · intro c
        refine GC.more tfine 0 rfl rfl rfl trivial ?_
        refine GC.step 1 rfl rfl (Steps.loadOpen tfine 1 721 AL L.length cL 2 (elC L vs) rfl rfl rfl rfl rfl rfl hb1 rfl rfl rfl (fun w h => by obtain ⟨A', c', e, h1, _⟩ := hcon w h; cases e; exact h1) hSL rfl rfl) rfl ?_
        refine GC.more tfine 2 rfl rfl rfl ⟨by omega, by omega, by omega, trivial⟩ ?_
        rw [Int.toNat_natCast]
        refine GC.choice 6 rfl _ rfl (StepsC.callOwn 729 3 n 1 (elI (cAt L q).1) rfl rfl rfl rfl rfl rfl (fun args w => Try.call26 args w) (fun m' hle ρ w hs hok => ?_)) rfl ownF_nm rfl ?_
        · obtain ⟨A1, c1, e1, h1, h2⟩ := hcon w (hs.ok 1 _ (hle.at rfl)).1
          obtain ⟨A2, c2, e2, h3, _⟩ := h2.2 q hql
          show Calls Try.prog _ #[vs q] w _
          rw [e2]
          have := cloneC_any A2 c2 (cAt L q).1 w h3 (by omega) (by omega)
          rw [hcq] at this ⊢
          exact this
        refine GC.step 7 rfl rfl (Steps.loadOpen tfine 1 722 AL L.length cL 2 (elC L vs) rfl rfl rfl rfl rfl rfl hb1 rfl rfl rfl (fun w h => by obtain ⟨A', c', e, h1, _⟩ := hcon w h; cases e; exact h1) hSL rfl rfl) rfl ?_
        refine GC.more tfine 8 rfl rfl rfl ⟨by omega, by omega, by omega, trivial⟩ ?_
        rw [Int.toNat_natCast]
        refine GC.choice 13 rfl _ rfl (StepsC.appendConS (c := capN n (c 6)) (room := (capN n (c 6) - n) * 1) [I (cAt L q).2] apT35 rfl rfl rfl rfl rfl rfl rfl rfl (Nat.le_refl _) rfl rfl rfl rfl (fun u hu => by simp at hu; subst hu; rfl) (fun k hk => rfl) (by unfold maxLen; omega) (by omega)) rfl conS_nm rfl ?_
        refine GC.more tfine 14 rfl rfl rfl trivial ?_
        refine GC.choice 15 rfl _ rfl (StepsC.appendAccS (n := 0) (c := cp) 36 39 (c 13) apLL rfl rfl rfl rfl rfl rfl rfl rfl rfl rfl rfl rfl rfl (fun k hk => rfl) (by unfold maxLen; omega) (by omega) rfl rfl rfl rfl rfl rfl) rfl accS_nm rfl ?_
        refine GC.more tfine 16 rfl rfl rfl trivial ?_
        refine GC.nil ?_
        obtain ⟨v, hv⟩ : ∃ v, v = slV (n + 1) (pr2 (c 15)) := ⟨_, rfl⟩
        obtain ⟨cp2, hcp2⟩ : ∃ cp2, cp2 = capN (0 + 1) (pr1 (c 15)) := ⟨_, rfl⟩
        have hcl : 0 + 1 ≤ cp2 := by rw [hcp2]; exact capN_le _ _
        refine G.weaken (st' := St.of [(1, .v (.c (.k (Pt b1)))), (2, .v (.c (.k (Pt b2)))), (3, .v (.c (.k (Pt g3)))), (5, .v (.c (.slc 38 0 1 (0 + 1) cp2))), (17, .v (.c (.inp 702 A5 set.length c5))), (18, .v (.c (.k (I set.length)))), (19, .v (.c (.k (I (0 : Nat)))))]
            [(1, .say S2 R2), (2, .say Z (J s Z)), (702, .ro 1 set.length (elI set)), (38, .arr 22 1 (0 + 1) (elN (fun j => [us j]) 0 [v]) ((cp2 - (0 + 1)) * 1)), (839, .say SR (fun w => ∀ j, j < 0 → IntsAt w (us j) ((rowsM L set).getD j []))), (39, .say (sb v) (fun w => RdV w v (n + 1) 1 (elN (elI (cAt L q).1) n [I (cAt L q).2])))])
          (St.le_of rfl ⟨⟨_, rfl, Blk.le_refl _⟩, ⟨_, rfl, Blk.le_refl _⟩, ⟨_, rfl, Blk.le_refl _⟩, ⟨_, rfl, by rw [hv, hcp2]; exact Blk.le_refl _⟩, ⟨_, rfl, Blk.le_refl _⟩, ⟨_, rfl, by rw [hv]; exact Blk.le_refl _⟩, trivial⟩ ⟨rfl, rfl, rfl, by rw [hcp2]; rfl, rfl, rfl, rfl, trivial⟩) ?_
        clear hv hcp2
        obtain ⟨us', hus⟩ : ∃ us' : Nat → Value, us' = fun j => if j = 0 then v else us j := ⟨_, rfl⟩
        have hso : ∀ j, j < 0 → us' j = us j := fun j hj => by rw [hus]; simp only; rw [if_neg (by omega)]
        have hsn : us' 0 = v := by rw [hus]; simp
        refine G.bothS 839 839 39 (fun k => SR k ∨ sb v k) (fun w => ∀ j, j < 0 + 1 → IntsAt w (us' j) ((rowsM L set).getD j [])) rfl rfl (fun k hk => hk) (fun s1 s2 w1 w2 a1 a2 a3 j hj => ?_) (fun w ha hb j hj => ?_) (fun b hb => ⟨_, _, (Option.some.inj hb).symm⟩) ?_
        · by_cases e : j = 0
          · subst e
            have h3 := a3 0 hj
            rw [hsn] at h3 ⊢
            exact steady_ints w1 w2 (fun k hk => a1 k (.inr hk)) a2 h3
          · have h3 := s1 w1 w2 (fun k hk => a1 k (.inl hk)) a2 (fun j' hj' => by have := a3 j' (by omega); rwa [hso j' hj'] at this) j (by omega)
            rw [hso j (by omega)]
            exact h3
        · by_cases e : j = 0
          · subst e
            rw [hsn, hrq]
            exact IntsAt.of hb (by rw [List.length_append, hcq]; rfl) (fun i' hi' => by
              have := elI_snoc (cAt L q).1 (cAt L q).2 i' (by rw [List.length_append] at hi'; exact hi')
              rw [hcq] at this
              rw [this])
          · rw [hso j (by omega)]
            exact ha j (by omega)
        refine G.rn 38 838 rfl trivial rfl rfl rfl ?_
        refine G.reg tfine rfl trivial ?_
        refine ⟨(0 + 1, cp2, us', fun k => SR k ∨ sb v k), ⟨by simp only; omega, hcl⟩, (by show set.length - (0 + 1) < set.length - 0; omega), ?_⟩
        exact St.le_of rfl ⟨⟨_, rfl, Blk.le_refl _⟩, ⟨_, rfl, Blk.le_refl _⟩, ⟨_, rfl, Blk.le_refl _⟩, ⟨_, rfl, rfl, rfl, Nat.le_refl _, (fun j hj => by
          have hj : j < 0 + 1 := hj
          show [us' j] = elN (fun j => [us j]) 0 [v] j
          by_cases e : j = 0
          · subst e; rw [elN_eq, hsn]
          · rw [elN_lt (by omega), hso j (by omega)]), Nat.le_refl _⟩, ⟨_, rfl, Blk.le_refl _⟩, trivial⟩ ⟨rfl, rfl, rfl, rfl, rfl, rfl, by first | rfl | (simp [up, I, rnS, rnTV, rnAV, rnAC]; rw [IntWalk.i64_in _ (by omega)]), trivial⟩
      ·
        intro c c' j hj h
        have hj : j < 17 := hj
        match j, hj, h with
        | 0, _, h => first | rfl | (show some _ = some _; done)
        | 1, _, h => first | rfl | (show some _ = some _; done)
        | 2, _, h => first | rfl | (show some _ = some _; done)
        | 3, _, h => first | rfl | (show some _ = some _; done)
        | 4, _, h => first | rfl | (show some _ = some _; done)
        | 5, _, h => first | rfl | (show some _ = some _; done)
        | 6, _, h => first | rfl | (show some _ = some _; (try rw [h 6 (.inl rfl)]); (try rw [h 6 (.inr ⟨rfl, rfl⟩)]); done)
        | 7, _, h => first | rfl | (show some _ = some _; (try rw [h 6 (.inl rfl)]); (try rw [h 6 (.inr ⟨rfl, rfl⟩)]); done)
        | 8, _, h => first | rfl | (show some _ = some _; (try rw [h 6 (.inl rfl)]); (try rw [h 6 (.inr ⟨rfl, rfl⟩)]); done)
        | 9, _, h => first | rfl | (show some _ = some _; (try rw [h 6 (.inl rfl)]); (try rw [h 6 (.inr ⟨rfl, rfl⟩)]); done)
        | 10, _, h => first | rfl | (show some _ = some _; (try rw [h 6 (.inl rfl)]); (try rw [h 6 (.inr ⟨rfl, rfl⟩)]); done)
        | 11, _, h => first | rfl | (show some _ = some _; (try rw [h 6 (.inl rfl)]); (try rw [h 6 (.inr ⟨rfl, rfl⟩)]); done)
        | 12, _, h => first | rfl | (show some _ = some _; (try rw [h 6 (.inl rfl)]); (try rw [h 6 (.inr ⟨rfl, rfl⟩)]); done)
        | 13, _, h => first | rfl | (show some _ = some _; (try rw [h 6 (.inl rfl)]); (try rw [h 6 (.inr ⟨rfl, rfl⟩)]); (try rw [h 13 (.inl rfl)]); (try rw [h 13 (.inr ⟨rfl, rfl⟩)]); done)
        | 14, _, h => first | rfl | (show some _ = some _; (try rw [h 6 (.inl rfl)]); (try rw [h 6 (.inr ⟨rfl, rfl⟩)]); (try rw [h 13 (.inl rfl)]); (try rw [h 13 (.inr ⟨rfl, rfl⟩)]); done)
        | 15, _, h => first | rfl | (show some _ = some _; (try rw [h 6 (.inl rfl)]); (try rw [h 6 (.inr ⟨rfl, rfl⟩)]); (try rw [h 13 (.inl rfl)]); (try rw [h 13 (.inr ⟨rfl, rfl⟩)]); (try rw [h 15 (.inl rfl)]); (try rw [h 15 (.inr ⟨rfl, rfl⟩)]); done)
        | 16, _, h => first | rfl | (show some _ = some _; (try rw [h 6 (.inl rfl)]); (try rw [h 6 (.inr ⟨rfl, rfl⟩)]); (try rw [h 13 (.inl rfl)]); (try rw [h 13 (.inr ⟨rfl, rfl⟩)]); (try rw [h 15 (.inl rfl)]); (try rw [h 15 (.inr ⟨rfl, rfl⟩)]); done)
        | q + 17, hj, h => exact absurd hj (by omega)
    · apply G.drawC (ch := fun j => match j with | 6 => some (ownF 729 3 n 1 (elI (cAt L q).1)) | 13 => some (conS 729 36 (n + 1) 1 (elN (elI (cAt L q).1) n [I (cAt L q).2])) | 15 => some (accS 838 38 39 (i + 1) 1 22 (fun j => [us j]) (n + 1) 1 (elN (elI (cAt L q).1) n [I (cAt L q).2])) | _ => none)
        (cls := [0, 0, 0, 6, 14, 30, 62, 0, 0, 384, 896, 1920, 3968, 8190, 16382, 32767, 65535]) (X := [(1, 721), (6, 729), (7, 722), (13, 36), (13, 729), (15, 38), (15, 838), (15, 39)]) hmix rfl rfl rfl
      · intro c
        refine GC.more tfine 0 rfl rfl rfl trivial ?_
        refine GC.step 1 rfl rfl (Steps.loadOpen tfine 1 721 AL L.length cL 2 (elC L vs) rfl rfl rfl rfl rfl rfl hb1 rfl rfl rfl (fun w h => by obtain ⟨A', c', e, h1, _⟩ := hcon w h; cases e; exact h1) hSL rfl rfl) rfl ?_
        refine GC.more tfine 2 rfl rfl rfl ⟨by omega, by omega, by omega, trivial⟩ ?_
        rw [Int.toNat_natCast]
        refine GC.choice 6 rfl _ rfl (StepsC.callOwn 729 3 n 1 (elI (cAt L q).1) rfl rfl rfl rfl rfl rfl (fun args w => Try.call26 args w) (fun m' hle ρ w hs hok => ?_)) rfl ownF_nm rfl ?_
        · obtain ⟨A1, c1, e1, h1, h2⟩ := hcon w (hs.ok 1 _ (hle.at rfl)).1
          obtain ⟨A2, c2, e2, h3, _⟩ := h2.2 q hql
          show Calls Try.prog _ #[vs q] w _
          rw [e2]
          have := cloneC_any A2 c2 (cAt L q).1 w h3 (by omega) (by omega)
          rw [hcq] at this ⊢
          exact this
        refine GC.step 7 rfl rfl (Steps.loadOpen tfine 1 722 AL L.length cL 2 (elC L vs) rfl rfl rfl rfl rfl rfl hb1 rfl rfl rfl (fun w h => by obtain ⟨A', c', e, h1, _⟩ := hcon w h; cases e; exact h1) hSL rfl rfl) rfl ?_
        refine GC.more tfine 8 rfl rfl rfl ⟨by omega, by omega, by omega, trivial⟩ ?_
        rw [Int.toNat_natCast]
        refine GC.choice 13 rfl _ rfl (StepsC.appendConS (c := capN n (c 6)) (room := (capN n (c 6) - n) * 1) [I (cAt L q).2] apT35 rfl rfl rfl rfl rfl rfl rfl rfl (Nat.le_refl _) rfl rfl rfl rfl (fun u hu => by simp at hu; subst hu; rfl) (fun k hk => rfl) (by unfold maxLen; omega) (by omega)) rfl conS_nm rfl ?_
        refine GC.more tfine 14 rfl rfl rfl trivial ?_
        refine GC.choice 15 rfl _ rfl (StepsC.appendAccS (n := (i + 1)) (c := cp) 36 39 (c 13) apLL rfl rfl rfl rfl rfl rfl rfl rfl rfl rfl rfl rfl rfl (fun k hk => rfl) (by unfold maxLen; omega) (by omega) rfl rfl rfl rfl rfl rfl) rfl accS_nm rfl ?_
        refine GC.more tfine 16 rfl rfl rfl trivial ?_
        refine GC.nil ?_
        obtain ⟨v, hv⟩ : ∃ v, v = slV (n + 1) (pr2 (c 15)) := ⟨_, rfl⟩
        obtain ⟨cp2, hcp2⟩ : ∃ cp2, cp2 = capN ((i + 1) + 1) (pr1 (c 15)) := ⟨_, rfl⟩
        have hcl : (i + 1) + 1 ≤ cp2 := by rw [hcp2]; exact capN_le _ _
        refine G.weaken (st' := St.of [(1, .v (.c (.k (Pt b1)))), (2, .v (.c (.k (Pt b2)))), (3, .v (.c (.k (Pt g3)))), (5, .v (.c (.slc 38 0 1 ((i + 1) + 1) cp2))), (17, .v (.c (.inp 702 A5 set.length c5))), (18, .v (.c (.k (I set.length)))), (19, .v (.c (.k (I ((i + 1) : Nat)))))]
            [(1, .say S2 R2), (2, .say Z (J s Z)), (702, .ro 1 set.length (elI set)), (38, .arr 22 1 ((i + 1) + 1) (elN (fun j => [us j]) (i + 1) [v]) ((cp2 - ((i + 1) + 1)) * 1)), (839, .say SR (fun w => ∀ j, j < (i + 1) → IntsAt w (us j) ((rowsM L set).getD j []))), (39, .say (sb v) (fun w => RdV w v (n + 1) 1 (elN (elI (cAt L q).1) n [I (cAt L q).2])))])
          (St.le_of rfl ⟨⟨_, rfl, Blk.le_refl _⟩, ⟨_, rfl, Blk.le_refl _⟩, ⟨_, rfl, Blk.le_refl _⟩, ⟨_, rfl, by rw [hv, hcp2]; exact Blk.le_refl _⟩, ⟨_, rfl, Blk.le_refl _⟩, ⟨_, rfl, by rw [hv]; exact Blk.le_refl _⟩, trivial⟩ ⟨rfl, rfl, rfl, by rw [hcp2]; rfl, rfl, rfl, rfl, trivial⟩) ?_
        clear hv hcp2
        obtain ⟨us', hus⟩ : ∃ us' : Nat → Value, us' = fun j => if j = (i + 1) then v else us j := ⟨_, rfl⟩
        have hso : ∀ j, j < (i + 1) → us' j = us j := fun j hj => by rw [hus]; simp only; rw [if_neg (by omega)]
        have hsn : us' (i + 1) = v := by rw [hus]; simp
        refine G.bothS 839 839 39 (fun k => SR k ∨ sb v k) (fun w => ∀ j, j < (i + 1) + 1 → IntsAt w (us' j) ((rowsM L set).getD j [])) rfl rfl (fun k hk => hk) (fun s1 s2 w1 w2 a1 a2 a3 j hj => ?_) (fun w ha hb j hj => ?_) (fun b hb => ⟨_, _, (Option.some.inj hb).symm⟩) ?_
        · by_cases e : j = (i + 1)
          · subst e
            have h3 := a3 (i + 1) hj
            rw [hsn] at h3 ⊢
            exact steady_ints w1 w2 (fun k hk => a1 k (.inr hk)) a2 h3
          · have h3 := s1 w1 w2 (fun k hk => a1 k (.inl hk)) a2 (fun j' hj' => by have := a3 j' (by omega); rwa [hso j' hj'] at this) j (by omega)
            rw [hso j (by omega)]
            exact h3
        · by_cases e : j = (i + 1)
          · subst e
            rw [hsn, hrq]
            exact IntsAt.of hb (by rw [List.length_append, hcq]; rfl) (fun i' hi' => by
              have := elI_snoc (cAt L q).1 (cAt L q).2 i' (by rw [List.length_append] at hi'; exact hi')
              rw [hcq] at this
              rw [this])
          · rw [hso j (by omega)]
            exact ha j (by omega)
        refine G.rn 38 838 rfl trivial rfl rfl rfl ?_
        refine G.reg tfine rfl trivial ?_
        refine ⟨((i + 1) + 1, cp2, us', fun k => SR k ∨ sb v k), ⟨by simp only; omega, hcl⟩, (by show set.length - ((i + 1) + 1) < set.length - (i + 1); omega), ?_⟩
        exact St.le_of rfl ⟨⟨_, rfl, Blk.le_refl _⟩, ⟨_, rfl, Blk.le_refl _⟩, ⟨_, rfl, Blk.le_refl _⟩, ⟨_, rfl, rfl, rfl, Nat.le_refl _, (fun j hj => by
          have hj : j < (i + 1) + 1 := hj
          show [us' j] = elN (fun j => [us j]) (i + 1) [v] j
          by_cases e : j = (i + 1)
          · subst e; rw [elN_eq, hsn]
          · rw [elN_lt (by omega), hso j (by omega)]), Nat.le_refl _⟩, ⟨_, rfl, Blk.le_refl _⟩, trivial⟩ ⟨rfl, rfl, rfl, rfl, rfl, rfl, by first | rfl | (simp [up, I, rnS, rnTV, rnAV, rnAC]; rw [IntWalk.i64_in _ (by omega)]), trivial⟩
      ·
        intro c c' j hj h
        have hj : j < 17 := hj
        match j, hj, h with
        | 0, _, h => first | rfl | (show some _ = some _; done)
        | 1, _, h => first | rfl | (show some _ = some _; done)
        | 2, _, h => first | rfl | (show some _ = some _; done)
        | 3, _, h => first | rfl | (show some _ = some _; done)
        | 4, _, h => first | rfl | (show some _ = some _; done)
        | 5, _, h => first | rfl | (show some _ = some _; done)
        | 6, _, h => first | rfl | (show some _ = some _; (try rw [h 6 (.inl rfl)]); (try rw [h 6 (.inr ⟨rfl, rfl⟩)]); done)
        | 7, _, h => first | rfl | (show some _ = some _; (try rw [h 6 (.inl rfl)]); (try rw [h 6 (.inr ⟨rfl, rfl⟩)]); done)
        | 8, _, h => first | rfl | (show some _ = some _; (try rw [h 6 (.inl rfl)]); (try rw [h 6 (.inr ⟨rfl, rfl⟩)]); done)
        | 9, _, h => first | rfl | (show some _ = some _; (try rw [h 6 (.inl rfl)]); (try rw [h 6 (.inr ⟨rfl, rfl⟩)]); done)
        | 10, _, h => first | rfl | (show some _ = some _; (try rw [h 6 (.inl rfl)]); (try rw [h 6 (.inr ⟨rfl, rfl⟩)]); done)
        | 11, _, h => first | rfl | (show some _ = some _; (try rw [h 6 (.inl rfl)]); (try rw [h 6 (.inr ⟨rfl, rfl⟩)]); done)
        | 12, _, h => first | rfl | (show some _ = some _; (try rw [h 6 (.inl rfl)]); (try rw [h 6 (.inr ⟨rfl, rfl⟩)]); done)
        | 13, _, h => first | rfl | (show some _ = some _; (try rw [h 6 (.inl rfl)]); (try rw [h 6 (.inr ⟨rfl, rfl⟩)]); (try rw [h 13 (.inl rfl)]); (try rw [h 13 (.inr ⟨rfl, rfl⟩)]); done)
        | 14, _, h => first | rfl | (show some _ = some _; (try rw [h 6 (.inl rfl)]); (try rw [h 6 (.inr ⟨rfl, rfl⟩)]); (try rw [h 13 (.inl rfl)]); (try rw [h 13 (.inr ⟨rfl, rfl⟩)]); done)
        | 15, _, h => first | rfl | (show some _ = some _; (try rw [h 6 (.inl rfl)]); (try rw [h 6 (.inr ⟨rfl, rfl⟩)]); (try rw [h 13 (.inl rfl)]); (try rw [h 13 (.inr ⟨rfl, rfl⟩)]); (try rw [h 15 (.inl rfl)]); (try rw [h 15 (.inr ⟨rfl, rfl⟩)]); done)
        | 16, _, h => first | rfl | (show some _ = some _; (try rw [h 6 (.inl rfl)]); (try rw [h 6 (.inr ⟨rfl, rfl⟩)]); (try rw [h 13 (.inl rfl)]); (try rw [h 13 (.inr ⟨rfl, rfl⟩)]); (try rw [h 15 (.inl rfl)]); (try rw [h 15 (.inr ⟨rfl, rfl⟩)]); done)
        | q + 17, hj, h => exact absurd hj (by omega)
  · have h2 := of_decide_eq_false h2
    have : i = set.length := by omega
    subst this
    refine G.exit ?_
    clear hi h2
    refine G.freezeAcc (n := set.length) (c := cp) 838 5 rfl rfl fun A hA => ?_
    obtain ⟨rc, hrc⟩ : ∃ rc, rc = accC set.length cp := ⟨_, rfl⟩
    have hrcl : set.length ≤ rc := by rw [hrc]; exact accC_le hcp
    rw [← hrc]
    clear hrc
    have hrr := rowsM_rows L n set hrow hin
    refine G.seqC tfine rfl trivial ?_
    refine GO.steps (Steps.loadK tfine 1 [I n] rfl rfl rfl rfl rfl hb2 rfl rfl) ?_
    refine GO.callSay 756 (plV n) (fun g => sb (plV n g)) (fun g w => RdV w (plV n g) n 1 (elI (placesL n))) rfl rfl rfl rfl rfl (fun args w => Try.call77 args w) (fun ρ w hs hok => places_any n w (by omega)) fun g => ?_
    refine GO.callPlain (v := I (overM L n set)) rfl rfl rfl rfl (fun args w => Try.call76 args w) (fun ρ w hs hok => ?_) ?_
    · exact detR L n set (placesL n) A g.1 rc g.2 us w (hs.ok 838 _ rfl).1 (hs.ok 839 _ rfl).1 hrcl (RdV.row (hs.ok 756 _ rfl).1) (placesL_len n) hlen hn (fun c hc => by have := mem_placesL hc; omega) hrr
    refine GO.fin tfine rfl trivial ?_
    refine G.seq ?_
    refine G.seqR tfine rfl trivial ?_
    obtain ⟨ov, hov⟩ : ∃ ov, ov = overM L n set := ⟨_, rfl⟩
    rw [← hov]
    refine G.cond (b := ov == 0) rfl (fun h3 => ?_) (fun h3 => ?_)
    · have h3 : ov = 0 := by simpa using h3
      have e : s ++ (cornerM L n set).toList = s := by rw [cornerM, if_pos (by rw [← hov]; exact h3)]; simp
      rw [e]
      refine G.exit ?_
      exact ⟨rfl, Z, rfl, fun k hk => .inl hk, rfl⟩
    have h3 : ov ≠ 0 := by simpa using h3
    refine G.skip ?_
    refine G.seqR tfine rfl trivial ?_
    refine G.seq ?_
    refine G.seqC tfine rfl trivial ?_
    refine GO.steps (Steps.loadK tfine 1 [I n] rfl rfl rfl rfl rfl hb2 rfl rfl) ?_
    refine GO.fin tfine rfl trivial ?_
    refine G.newNil 833 1 (elI []) rfl ?_
    obtain ⟨O, hO⟩ : ∃ O, O = absW ov := ⟨_, rfl⟩
    obtain ⟨fa, hfa⟩ : ∃ fa, fa = W (O.tdiv ov) := ⟨_, rfl⟩
    refine G.block (G.loop (fun z : Nat × Nat => St.of [(1, .v (.c (.k (Pt b1)))), (2, .v (.c (.k (Pt b2)))), (3, .v (.c (.k (Pt g3)))), (5, .v (.c (.k (.slice A set.length rc)))), (8, .v (.c (.k (I ov)))), (9, .v (.c (.ptr 9 0 0 0))), (51, .v (.c (.k (I n)))), (52, .v (.c (.k (I z.1))))]
        [(1, .say S2 R2), (2, .say Z (J s Z)), (838, .say (sb (.slice A set.length rc)) (fun w => RdRow w A set.length 1 (fun j => [us j]))), (839, .say SR (fun w => ∀ j, j < set.length → IntsAt w (us j) ((rowsM L set).getD j []))), (9, .var 29 [accV 833 1 z.1 z.2, .k (I O)]), (833, accB 3 1 z.1 z.2 (elI ((numsM (rowsM L set) n fa).take z.1)))])
      (fun z => z.1 ≤ n ∧ z.1 ≤ z.2) (fun z => n - z.1) (0, 0) ⟨Nat.zero_le _, Nat.le_refl _⟩ (St.le_of rfl ⟨⟨_, rfl, Blk.le_refl _⟩, ⟨_, rfl, Blk.le_refl _⟩, ⟨_, rfl, Blk.le_refl _⟩, ⟨_, rfl, Blk.le_refl _⟩, ⟨_, rfl, by rw [hO]; exact Blk.le_refl _⟩, ⟨_, rfl, Blk.le_refl _⟩, trivial⟩ ⟨rfl, rfl, rfl, rfl, rfl, rfl, rfl, rfl, trivial⟩) ?_)
    rintro ⟨k, kp⟩ ⟨hk, hkp⟩
    simp only at hk hkp
    refine G.seqR tfine rfl trivial ?_
    refine G.seq ?_
    refine G.cond (b := decide ((k : Int) < (n : Int))) rfl (fun h4 => ?_) (fun h4 => ?_)
    · have h4 := of_decide_eq_true h4
      have hkn : k < n := by omega
      refine G.skip ?_
      refine G.seq ?_
      refine G.block ?_
      refine G.seqR tfine rfl trivial ?_
      refine G.seqC tfine rfl trivial ?_
      refine GO.steps (Steps.loadK tfine 1 [I n] rfl rfl rfl rfl rfl hb2 rfl rfl) ?_
      refine GO.callCap 756 3 n 1 (elI (placesL n)) rfl rfl rfl rfl rfl rfl (fun args w => Try.call77 args w) (fun ρ w hs hok => placesC_any n w (by omega) (by omega)) fun cp2 hcp2 => ?_
      refine GO.fin tfine rfl trivial ?_
      refine G.seqC tfine rfl trivial ?_
      refine GO.steps (Steps.loadK tfine 1 [I n] rfl rfl rfl rfl rfl hb2 rfl rfl) ?_
      refine GO.fin tfine rfl ⟨by omega, by omega, by omega, trivial⟩ ?_
      rw [Int.toNat_natCast]
      refine G.weaken (st' := St.of [(1, .v (.c (.k (Pt b1)))), (2, .v (.c (.k (Pt b2)))), (3, .v (.c (.k (Pt g3)))), (5, .v (.c (.k (.slice A set.length rc)))), (8, .v (.c (.k (I ov)))), (9, .v (.c (.ptr 9 0 0 0))), (11, .v (.c (.slc 756 0 1 n cp2))), (51, .v (.c (.k (I n)))), (52, .v (.c (.k (I k))))]
        [(1, .say S2 R2), (2, .say Z (J s Z)), (838, .say (sb (.slice A set.length rc)) (fun w => RdRow w A set.length 1 (fun j => [us j]))), (839, .say SR (fun w => ∀ j, j < set.length → IntsAt w (us j) ((rowsM L set).getD j []))), (9, .var 29 [accV 833 1 k kp, .k (I O)]), (833, accB 3 1 k kp (elI ((numsM (rowsM L set) n fa).take k))), (756, .arr 3 1 n (elI ((placesL n).set k (n : Int))) ((cp2 - n) * 1))])
        (St.le_of (by cases k <;> rfl) ⟨⟨_, rfl, Blk.le_refl _⟩, ⟨_, rfl, Blk.le_refl _⟩, ⟨_, rfl, Blk.le_refl _⟩, ⟨_, rfl, Blk.le_refl _⟩, ⟨_, rfl, Blk.le_refl _⟩, ⟨_, rfl, Blk.le_refl _⟩, ⟨_, rfl, rfl, rfl, Nat.le_refl _, (fun j hj => by
          have hj : j < n := hj
          rw [elI_set _ _ _ _ (by rw [placesL_len]; exact hj)]
          by_cases e : j = k
          · subst e; simp
          · rw [if_neg e]; simp [nbeq e]), Nat.le_refl _⟩, trivial⟩ ⟨rfl, rfl, rfl, rfl, rfl, rfl, rfl, rfl, rfl, trivial⟩) ?_
      obtain ⟨v, hv⟩ : ∃ v, v = numM (rowsM L set) n fa k := ⟨_, rfl⟩
      have hsn := numsM_snoc (rowsM L set) n fa k hkn
      rw [← hv] at hsn
      rcases k with _ | k
      · apply G.drawC (ch := fun j => match j with | 11 => some (accF 833 72 (0 + 1) 1 3 (elN (elI ((numsM (rowsM L set) n fa).take 0)) 0 [I v])) | _ => none) (cls := [0, 1, 0, 0, 12, 0, 32, 0, 224, 508, 1020, 2047, 4095, 8191]) (X := [(11, 72), (11, 833), (13, 9)]) hmix rfl rfl rfl
        · intro c
          refine GC.more tfine 0 rfl rfl rfl trivial ?_
          refine GC.step 4 rfl rfl (tv := toTV (I (detC (rowsM L set) ((placesL n).set 0 (n : Int))))) (ms := []) (Steps.callPlain rfl rfl rfl rfl (fun args w => Try.call76 args w) (fun m' hle ρ w hs hok => ?_)) rfl ?_
          · have hC := hs.rdArr (hle.at (y := 756) rfl) 0 n (by omega)
            exact detR L n set ((placesL n).set 0 (n : Int)) A _ rc cp2 us w (hs.ok 838 _ (hle.at rfl)).1 (hs.ok 839 _ (hle.at rfl)).1 hrcl (hC.congr fun i hi => by rw [Nat.zero_add]) (by rw [List.length_set, placesL_len]) hlen hn set_in hrr
          refine GC.more tfine 5 rfl rfl rfl ⟨h3, trivial⟩ ?_
          refine GC.choice 11 rfl _ rfl (StepsC.appendAcc (n := 0) (c := kp) [I v] apT35 rfl rfl rfl rfl rfl rfl rfl rfl rfl rfl rfl (by rw [hv, numM, hfa]; rfl) rfl (fun u hu => by simp at hu; subst hu; rfl) (fun k hk => rfl) (by unfold maxLen; omega) (by omega)) rfl accF_nm rfl ?_
          refine GC.more tfine 12 rfl rfl rfl trivial ?_
          refine GC.nil ?_
          obtain ⟨kp2, hkp2⟩ : ∃ kp2, kp2 = capN (0 + 1) (c 11) := ⟨_, rfl⟩
          have hkl : 0 + 1 ≤ kp2 := by rw [hkp2]; exact capN_le _ _
          refine G.weaken (st' := St.of [(1, .v (.c (.k (Pt b1)))), (2, .v (.c (.k (Pt b2)))), (3, .v (.c (.k (Pt g3)))), (5, .v (.c (.k (.slice A set.length rc)))), (8, .v (.c (.k (I ov)))), (9, .v (.c (.ptr 9 0 0 0))), (51, .v (.c (.k (I n)))), (52, .v (.c (.k (I (0 : Nat)))))]
            [(1, .say S2 R2), (2, .say Z (J s Z)), (838, .say (sb (.slice A set.length rc)) (fun w => RdRow w A set.length 1 (fun j => [us j]))), (839, .say SR (fun w => ∀ j, j < set.length → IntsAt w (us j) ((rowsM L set).getD j []))), (9, .var 29 [.slc 72 0 1 (0 + 1) kp2, .k (I O)]), (72, .arr 3 1 (0 + 1) (elN (elI ((numsM (rowsM L set) n fa).take 0)) 0 [I v]) ((kp2 - (0 + 1)) * 1))])
            (St.le_of rfl ⟨⟨_, rfl, Blk.le_refl _⟩, ⟨_, rfl, Blk.le_refl _⟩, ⟨_, rfl, Blk.le_refl _⟩, ⟨_, rfl, Blk.le_refl _⟩, ⟨_, rfl, by rw [hkp2]; exact Blk.le_refl _⟩, ⟨_, rfl, by rw [hkp2]; exact Blk.le_refl _⟩, trivial⟩ ⟨rfl, rfl, rfl, rfl, rfl, rfl, rfl, rfl, trivial⟩) ?_
          refine G.rn 72 833 rfl trivial rfl rfl rfl ?_
          refine G.reg tfine rfl trivial ?_
          refine ⟨(0 + 1, kp2), ⟨by simp only; omega, hkl⟩, (by show n - (0 + 1) < n - 0; omega), ?_⟩
          exact St.le_of rfl ⟨⟨_, rfl, Blk.le_refl _⟩, ⟨_, rfl, Blk.le_refl _⟩, ⟨_, rfl, Blk.le_refl _⟩, ⟨_, rfl, Blk.le_refl _⟩, ⟨_, rfl, Blk.le_refl _⟩, ⟨_, rfl, rfl, rfl, Nat.le_refl _, hsn, Nat.le_refl _⟩, trivial⟩ ⟨rfl, rfl, rfl, rfl, rfl, rfl, rfl, by first | rfl | (simp [up, I, rnS, rnTV, rnAV, rnAC]; rw [IntWalk.i64_in _ (by omega)]), trivial⟩
        ·
          intro c c' j hj h
          have hj : j < 14 := hj
          match j, hj, h with
          | 0, _, h => first | rfl | (show some _ = some _; done)
          | 1, _, h => first | rfl | (show some _ = some _; done)
          | 2, _, h => first | rfl | (show some _ = some _; done)
          | 3, _, h => first | rfl | (show some _ = some _; done)
          | 4, _, h => first | rfl | (show some _ = some _; done)
          | 5, _, h => first | rfl | (show some _ = some _; done)
          | 6, _, h => first | rfl | (show some _ = some _; done)
          | 7, _, h => first | rfl | (show some _ = some _; done)
          | 8, _, h => first | rfl | (show some _ = some _; done)
          | 9, _, h => first | rfl | (show some _ = some _; done)
          | 10, _, h => first | rfl | (show some _ = some _; done)
          | 11, _, h => first | rfl | (show some _ = some _; (try rw [h 11 (.inl rfl)]); (try rw [h 11 (.inr ⟨rfl, rfl⟩)]); done)
          | 12, _, h => first | rfl | (show some _ = some _; (try rw [h 11 (.inl rfl)]); (try rw [h 11 (.inr ⟨rfl, rfl⟩)]); done)
          | 13, _, h => first | rfl | (show some _ = some _; (try rw [h 11 (.inl rfl)]); (try rw [h 11 (.inr ⟨rfl, rfl⟩)]); done)
          | q + 14, hj, h => exact absurd hj (by omega)
      · apply G.drawC (ch := fun j => match j with | 11 => some (accF 833 72 ((k + 1) + 1) 1 3 (elN (elI ((numsM (rowsM L set) n fa).take (k + 1))) (k + 1) [I v])) | _ => none) (cls := [0, 1, 0, 0, 12, 0, 32, 0, 224, 508, 1020, 2047, 4095, 8191]) (X := [(11, 72), (11, 833), (13, 9)]) hmix rfl rfl rfl
        · intro c
          refine GC.more tfine 0 rfl rfl rfl trivial ?_
          refine GC.step 4 rfl rfl (tv := toTV (I (detC (rowsM L set) ((placesL n).set (k + 1) (n : Int))))) (ms := []) (Steps.callPlain rfl rfl rfl rfl (fun args w => Try.call76 args w) (fun m' hle ρ w hs hok => ?_)) rfl ?_
          · have hC := hs.rdArr (hle.at (y := 756) rfl) 0 n (by omega)
            exact detR L n set ((placesL n).set (k + 1) (n : Int)) A _ rc cp2 us w (hs.ok 838 _ (hle.at rfl)).1 (hs.ok 839 _ (hle.at rfl)).1 hrcl (hC.congr fun i hi => by rw [Nat.zero_add]) (by rw [List.length_set, placesL_len]) hlen hn set_in hrr
          refine GC.more tfine 5 rfl rfl rfl ⟨h3, trivial⟩ ?_
          refine GC.choice 11 rfl _ rfl (StepsC.appendAcc (n := (k + 1)) (c := kp) [I v] apT35 rfl rfl rfl rfl rfl rfl rfl rfl rfl rfl rfl (by rw [hv, numM, hfa]; rfl) rfl (fun u hu => by simp at hu; subst hu; rfl) (fun k hk => rfl) (by unfold maxLen; omega) (by omega)) rfl accF_nm rfl ?_
          refine GC.more tfine 12 rfl rfl rfl trivial ?_
          refine GC.nil ?_
          obtain ⟨kp2, hkp2⟩ : ∃ kp2, kp2 = capN ((k + 1) + 1) (c 11) := ⟨_, rfl⟩
          have hkl : (k + 1) + 1 ≤ kp2 := by rw [hkp2]; exact capN_le _ _
          refine G.weaken (st' := St.of [(1, .v (.c (.k (Pt b1)))), (2, .v (.c (.k (Pt b2)))), (3, .v (.c (.k (Pt g3)))), (5, .v (.c (.k (.slice A set.length rc)))), (8, .v (.c (.k (I ov)))), (9, .v (.c (.ptr 9 0 0 0))), (51, .v (.c (.k (I n)))), (52, .v (.c (.k (I ((k + 1) : Nat)))))]
            [(1, .say S2 R2), (2, .say Z (J s Z)), (838, .say (sb (.slice A set.length rc)) (fun w => RdRow w A set.length 1 (fun j => [us j]))), (839, .say SR (fun w => ∀ j, j < set.length → IntsAt w (us j) ((rowsM L set).getD j []))), (9, .var 29 [.slc 72 0 1 ((k + 1) + 1) kp2, .k (I O)]), (72, .arr 3 1 ((k + 1) + 1) (elN (elI ((numsM (rowsM L set) n fa).take (k + 1))) (k + 1) [I v]) ((kp2 - ((k + 1) + 1)) * 1))])
            (St.le_of rfl ⟨⟨_, rfl, Blk.le_refl _⟩, ⟨_, rfl, Blk.le_refl _⟩, ⟨_, rfl, Blk.le_refl _⟩, ⟨_, rfl, Blk.le_refl _⟩, ⟨_, rfl, by rw [hkp2]; exact Blk.le_refl _⟩, ⟨_, rfl, by rw [hkp2]; exact Blk.le_refl _⟩, trivial⟩ ⟨rfl, rfl, rfl, rfl, rfl, rfl, rfl, rfl, trivial⟩) ?_
          refine G.rn 72 833 rfl trivial rfl rfl rfl ?_
          refine G.reg tfine rfl trivial ?_
          refine ⟨((k + 1) + 1, kp2), ⟨by simp only; omega, hkl⟩, (by show n - ((k + 1) + 1) < n - (k + 1); omega), ?_⟩
          exact St.le_of rfl ⟨⟨_, rfl, Blk.le_refl _⟩, ⟨_, rfl, Blk.le_refl _⟩, ⟨_, rfl, Blk.le_refl _⟩, ⟨_, rfl, Blk.le_refl _⟩, ⟨_, rfl, Blk.le_refl _⟩, ⟨_, rfl, rfl, rfl, Nat.le_refl _, hsn, Nat.le_refl _⟩, trivial⟩ ⟨rfl, rfl, rfl, rfl, rfl, rfl, rfl, by first | rfl | (simp [up, I, rnS, rnTV, rnAV, rnAC]; rw [IntWalk.i64_in _ (by omega)]), trivial⟩
        ·
          intro c c' j hj h
          have hj : j < 14 := hj
          match j, hj, h with
          | 0, _, h => first | rfl | (show some _ = some _; done)
          | 1, _, h => first | rfl | (show some _ = some _; done)
          | 2, _, h => first | rfl | (show some _ = some _; done)
          | 3, _, h => first | rfl | (show some _ = some _; done)
          | 4, _, h => first | rfl | (show some _ = some _; done)
          | 5, _, h => first | rfl | (show some _ = some _; done)
          | 6, _, h => first | rfl | (show some _ = some _; done)
          | 7, _, h => first | rfl | (show some _ = some _; done)
          | 8, _, h => first | rfl | (show some _ = some _; done)
          | 9, _, h => first | rfl | (show some _ = some _; done)
          | 10, _, h => first | rfl | (show some _ = some _; done)
          | 11, _, h => first | rfl | (show some _ = some _; (try rw [h 11 (.inl rfl)]); (try rw [h 11 (.inr ⟨rfl, rfl⟩)]); done)
          | 12, _, h => first | rfl | (show some _ = some _; (try rw [h 11 (.inl rfl)]); (try rw [h 11 (.inr ⟨rfl, rfl⟩)]); done)
          | 13, _, h => first | rfl | (show some _ = some _; (try rw [h 11 (.inl rfl)]); (try rw [h 11 (.inr ⟨rfl, rfl⟩)]); done)
          | q + 14, hj, h => exact absurd hj (by omega)
    · have h4 := of_decide_eq_false h4
      have e : n = k := by omega
      subst e
      refine G.exit ?_
      rw [List.take_of_length_le (by rw [numsM_len]; exact Nat.le_refl _)]
      obtain ⟨nums, hnums⟩ : ∃ nums, nums = numsM (rowsM L set) n fa := ⟨_, rfl⟩
      have hnl : nums.length = n := by rw [hnums]; exact numsM_len _ _ _
      have hcn : nums = cornN L n set := by rw [hnums, cornN, ← hov, ← hO, ← hfa]
      rw [← hnums]
      rw [← hcn, ← hov, ← hO] at hg
      have hcm : cornerM L n set = if keepsM L nums O = true then some (lowL nums O, lowO nums O) else none := by
        rw [cornerM, if_neg (by rw [← hov]; exact h3), ← hcn, ← hov, ← hO]
      rw [hcm]
      obtain ⟨cb, hcb⟩ : ∃ cb, cb = keepsM L nums O := ⟨_, rfl⟩
      rw [← hcb] at hg hcm ⊢
      have hg : cb = true → gL nums O ≠ 0 := hg h3
      have hse : s ++ (if cb = true then some (lowL nums O, lowO nums O) else none).toList = bif cb then s ++ [(lowL nums O, lowO nums O)] else s := by cases cb <;> simp
      rw [hse]
      have hmemc : cb = true → (lowL nums O, lowO nums O) ∈ cornersM L n := fun e => List.mem_filterMap.2 ⟨set, hmem, by rw [hcm, if_pos e]⟩
      refine G.weaken (st' := St.of [(1, .v (.c (.k (Pt b1)))), (2, .v (.c (.k (Pt b2)))), (3, .v (.c (.k (Pt g3)))), (9, .v (.c (.ptr 9 0 0 0)))]
        [(1, .say S2 R2), (2, .say Z (J s Z)), (9, .var 29 [accV 833 1 n kp, .k (I O)]), (833, accB 3 1 n kp (elI nums))])
        (St.le_of (by cases n <;> rfl) ⟨⟨_, rfl, Blk.le_refl _⟩, ⟨_, rfl, Blk.le_refl _⟩, ⟨_, rfl, Blk.le_refl _⟩, ⟨_, rfl, Blk.le_refl _⟩, trivial⟩ ⟨rfl, rfl, rfl, rfl, trivial⟩) ?_
      rcases n with _ | n
      · refine G.seq ?_
        apply G.drawC (ch := fun j => match j with | 9 => some (sayG 784 6 true cb (fun u => .agg [.k (slV 0 u), .k (I (lowO nums O))]) (fun u k => sb (slV 0 u) k ∧ W2.heap.size ≤ k) (fun u w => RdV w (slV 0 u) 0 1 (elI (lowL nums O)) ∧ ∀ k, sb (slV 0 u) k → W2.heap.size ≤ k)) | 10 => some (Sx.yieldGF (fun k => Z k ∨ W2.heap.size ≤ k) 2 6 true cb J (bif cb then s ++ [(lowL nums O, lowO nums O)] else s)) | _ => none) (cls := [0, 0, 2, 0, 8, 31, 63, 127, 127, 383, 1023, 2047, 4095]) (X := [(9, 784), (10, 2)]) hmix rfl rfl rfl
        · intro c
          refine GC.step 0 rfl rfl (Steps.loadK tfine 1 [.slice AL L.length cL] rfl rfl rfl rfl rfl hb1 rfl rfl) rfl ?_
          refine GC.more tfine 1 rfl rfl rfl trivial ?_
          refine GC.step 5 rfl rfl (tv := toTV (.bool cb)) (ms := []) (Steps.callPlain rfl rfl rfl rfl (fun args w => Try.call78 args w) (fun m' hle ρ w hs hok => ?_)) rfl ?_
          · obtain ⟨B, eB, hB⟩ := hs.accRow (x := 833) (n := 0) (c := kp) (e := 3) (el := elI nums) (hle.at rfl)
            show Calls Try.prog _ #[.slice AL L.length cL, AC.conc ρ (accV 833 1 0 kp), I O] w _
            rw [eB, hcb]
            have := keeps_any (.slice AL L.length cL) L vs B (accC 0 kp) nums O w (hcon w (hs.ok 1 _ (hle.at rfl)).1) (by rw [hnl]; exact hB) (fun i hi => by rw [hnl, hrow _ (cAt_mem hi)]; exact Nat.le_refl _) (by omega) (by omega)
            rw [hnl] at this
            exact this
          refine GC.more tfine 6 rfl rfl rfl trivial ?_
          refine GC.step 7 rfl rfl (Steps.loadKG tfine 1 [.func (.yield l0) #[] #[]] rfl rfl trivial rfl rfl rfl rfl hg3 rfl rfl) rfl ?_
          refine GC.more tfine 8 rfl rfl rfl trivial ?_
          refine GC.choice 9 rfl _ rfl (StepsC.callSayG 784 (fun u => .agg [.k (slV 0 u), .k (I (lowO nums O))]) (fun u k => sb (slV 0 u) k ∧ W2.heap.size ≤ k) (fun u w => RdV w (slV 0 u) 0 1 (elI (lowL nums O)) ∧ ∀ k, sb (slV 0 u) k → W2.heap.size ≤ k) rfl rfl ⟨fun h => h, trivial⟩ rfl rfl rfl rfl (fun args w => Try.call71 args w) (fun u ρ m => ⟨fun a ha => by simp at ha; rcases ha with rfl | rfl <;> trivial, rfl⟩) (fun hct m' hle ρ w hs hok => ?_)) rfl sayG_nm rfl ?_
          · obtain ⟨B, eB, hB⟩ := hs.accRow (x := 833) (n := 0) (c := kp) (e := 3) (el := elI nums) (hle.at rfl)
            show Calls Try.prog _ #[.agg #[AC.conc ρ (accV 833 1 0 kp), I O]] w _
            rw [eB]
            have := low_any B (accC 0 kp) nums O w (by rw [hnl]; exact hB) (by omega) (hg hct)
            rw [hnl] at this
            refine this.mono ?_
            rintro e w' ⟨ha, hbl⟩
            obtain ⟨A', c', rfl, h1, h2⟩ := ha.rat
            have hll : (lowL nums O).length = 0 := by simp [lowL, hnl]
            rw [hll] at h1 h2 ⊢
            have hsb := rdNew_sb (c := c') h2
            refine ⟨(.slice A' 0 c', fun _ => False), ?_, hbl, ⟨?_, ?_⟩, ?_, ?_⟩
            · show Ending.returned (Value.agg #[Value.slice A' 0 c', I (lowO nums O)]) = Ending.returned (Value.agg #[slV 0 (.slice A' 0 c', fun _ => False), I (lowO nums O)])
              rw [slV_eq h1]
            · rw [slV_eq h1]
              exact ⟨A', c', rfl, h2.rd, fun _ => h1⟩
            · rw [slV_eq h1]
              exact fun k hk => Nat.le_trans hs.fr.size (hsb k hk).1
            · rw [slV_eq h1]
              exact fun k hk => hsb k hk.1
            · exact fun w1 w2 q1 q2 q3 => ⟨steady_rdv w1 w2 (fun k hk => q1 k ⟨hk, q3.2 k hk⟩) q2 q3.1, q3.2⟩
          refine GC.choice 10 rfl _ rfl (StepsC.yieldGF 2 s (lowL nums O, lowO nums O) Z hRd hmemc rfl hTW rfl rfl rfl ⟨fun h => h, fun h => h, trivial⟩ rfl rfl rfl rfl rfl rfl (fun hct y b hne hb => ?_) (fun hct ρ w hs hok => ?_)) rfl yieldGF_nm rfl ?_
          · refine canF_all (Q := fun y b => y ≠ 2 → y < 1000 ∧ Blk.calm T 0 b) ?_ ?_ ?_ y b hb hne
            · rfl
            · exact fun y b hb hne => calm_of (T := T) (xJ := 2) (ml := [(1, .say S2 R2), (2, .say Z (J s Z)), (9, .var 29 [accV 833 1 0 kp, .k (I O)]), (833, accB 3 1 0 kp (elI nums))]) ⟨.inr ⟨(by show (1 : Nat) < 1000; decide), hTs⟩, .inl rfl, .inr ⟨(by show (9 : Nat) < 1000; decide), trivial⟩, .inr ⟨(by show (833 : Nat) < 1000; decide), (calm_accB : Blk.calm T 0 (accB 3 1 0 kp (elI nums)))⟩, trivial⟩ y b hne hb
            refine ⟨⟨fun _ => ⟨(by show (784 : Nat) < 1000; decide), fun k hk hk' => ?_⟩, trivial⟩, ?_⟩
            · have := hTW k hk
              have := hk'.2.2
              omega
            · repeat (first | exact trivial | refine ⟨trivial, ?_⟩)
          · obtain ⟨f1, f2⟩ := hs.sayAt (X := 784) rfl
            obtain ⟨f3, f4⟩ := f1 hct
            have hv : ∀ k, vbk (.agg #[slV 0 (c 9), I (lowO nums O)]) k → sb (slV 0 (c 9)) k := by
              rintro k ⟨u, hu, hk⟩
              simp at hu
              rcases hu with rfl | rfl
              · exact hk
              · exact hk.elim
            refine ⟨⟨⟨slV 0 (c 9), rfl, IntsAt.of f3 (by simp [lowL, hnl]) fun _ _ => rfl⟩, fun k hk => Nat.le_trans hlo (f4 k (hv k hk))⟩, fun k hk => ⟨f4 k (hv k hk), f2 k ⟨hct, hv k hk, f4 k (hv k hk)⟩⟩⟩
          refine GC.more tfine 11 rfl rfl rfl (by simp [AllP, condB]) ?_
          refine GC.nil ?_
          refine G.cond (b := false) ?_ (fun h => by cases h) (fun _ => ?_)
          · cases cb <;> rfl
          refine G.skip ?_
          exact ⟨rfl, _, rfl, fun k hk => hk.2, rfl⟩
        ·
          intro c c' j hj h
          have hj : j < 13 := hj
          match j, hj, h with
          | 0, _, h => first | rfl | (show some _ = some _; done)
          | 1, _, h => first | rfl | (show some _ = some _; done)
          | 2, _, h => first | rfl | (show some _ = some _; done)
          | 3, _, h => first | rfl | (show some _ = some _; done)
          | 4, _, h => first | rfl | (show some _ = some _; done)
          | 5, _, h => first | rfl | (show some _ = some _; done)
          | 6, _, h => first | rfl | (show some _ = some _; done)
          | 7, _, h => first | rfl | (show some _ = some _; done)
          | 8, _, h => first | rfl | (show some _ = some _; done)
          | 9, _, h => first | rfl | (show some _ = some _; (try rw [h 9 (.inl rfl)]); (try rw [h 9 (.inr ⟨rfl, rfl⟩)]); done)
          | 10, _, h => first | rfl | (show some _ = some _; (try rw [h 9 (.inl rfl)]); (try rw [h 9 (.inr ⟨rfl, rfl⟩)]); (try rw [h 10 (.inl rfl)]); (try rw [h 10 (.inr ⟨rfl, rfl⟩)]); done)
          | 11, _, h => first | rfl | (show some _ = some _; (try rw [h 9 (.inl rfl)]); (try rw [h 9 (.inr ⟨rfl, rfl⟩)]); (try rw [h 10 (.inl rfl)]); (try rw [h 10 (.inr ⟨rfl, rfl⟩)]); done)
          | 12, _, h => first | rfl | (show some _ = some _; (try rw [h 9 (.inl rfl)]); (try rw [h 9 (.inr ⟨rfl, rfl⟩)]); (try rw [h 10 (.inl rfl)]); (try rw [h 10 (.inr ⟨rfl, rfl⟩)]); done)
          | q + 13, hj, h => exact absurd hj (by omega)
      · refine G.seq ?_
        apply G.drawC (ch := fun j => match j with | 9 => some (sayG 784 6 true cb (fun u => .agg [.k (slV (n + 1) u), .k (I (lowO nums O))]) (fun u k => sb (slV (n + 1) u) k ∧ W2.heap.size ≤ k) (fun u w => RdV w (slV (n + 1) u) (n + 1) 1 (elI (lowL nums O)) ∧ ∀ k, sb (slV (n + 1) u) k → W2.heap.size ≤ k)) | 10 => some (Sx.yieldGF (fun k => Z k ∨ W2.heap.size ≤ k) 2 6 true cb J (bif cb then s ++ [(lowL nums O, lowO nums O)] else s)) | _ => none) (cls := [0, 0, 2, 0, 8, 31, 63, 127, 127, 383, 1023, 2047, 4095]) (X := [(9, 784), (10, 2)]) hmix rfl rfl rfl
        · intro c
          refine GC.step 0 rfl rfl (Steps.loadK tfine 1 [.slice AL L.length cL] rfl rfl rfl rfl rfl hb1 rfl rfl) rfl ?_
          refine GC.more tfine 1 rfl rfl rfl trivial ?_
          refine GC.step 5 rfl rfl (tv := toTV (.bool cb)) (ms := []) (Steps.callPlain rfl rfl rfl rfl (fun args w => Try.call78 args w) (fun m' hle ρ w hs hok => ?_)) rfl ?_
          · obtain ⟨B, eB, hB⟩ := hs.accRow (x := 833) (n := (n + 1)) (c := kp) (e := 3) (el := elI nums) (hle.at rfl)
            show Calls Try.prog _ #[.slice AL L.length cL, AC.conc ρ (accV 833 1 (n + 1) kp), I O] w _
            rw [eB, hcb]
            have := keeps_any (.slice AL L.length cL) L vs B (accC (n + 1) kp) nums O w (hcon w (hs.ok 1 _ (hle.at rfl)).1) (by rw [hnl]; exact hB) (fun i hi => by rw [hnl, hrow _ (cAt_mem hi)]; exact Nat.le_refl _) (by omega) (by omega)
            rw [hnl] at this
            exact this
          refine GC.more tfine 6 rfl rfl rfl trivial ?_
          refine GC.step 7 rfl rfl (Steps.loadKG tfine 1 [.func (.yield l0) #[] #[]] rfl rfl trivial rfl rfl rfl rfl hg3 rfl rfl) rfl ?_
          refine GC.more tfine 8 rfl rfl rfl trivial ?_
          refine GC.choice 9 rfl _ rfl (StepsC.callSayG 784 (fun u => .agg [.k (slV (n + 1) u), .k (I (lowO nums O))]) (fun u k => sb (slV (n + 1) u) k ∧ W2.heap.size ≤ k) (fun u w => RdV w (slV (n + 1) u) (n + 1) 1 (elI (lowL nums O)) ∧ ∀ k, sb (slV (n + 1) u) k → W2.heap.size ≤ k) rfl rfl ⟨fun h => h, trivial⟩ rfl rfl rfl rfl (fun args w => Try.call71 args w) (fun u ρ m => ⟨fun a ha => by simp at ha; rcases ha with rfl | rfl <;> trivial, rfl⟩) (fun hct m' hle ρ w hs hok => ?_)) rfl sayG_nm rfl ?_
          · obtain ⟨B, eB, hB⟩ := hs.accRow (x := 833) (n := (n + 1)) (c := kp) (e := 3) (el := elI nums) (hle.at rfl)
            show Calls Try.prog _ #[.agg #[AC.conc ρ (accV 833 1 (n + 1) kp), I O]] w _
            rw [eB]
            have := low_any B (accC (n + 1) kp) nums O w (by rw [hnl]; exact hB) (by omega) (hg hct)
            rw [hnl] at this
            refine this.mono ?_
            rintro e w' ⟨ha, hbl⟩
            obtain ⟨A', c', rfl, h1, h2⟩ := ha.rat
            have hll : (lowL nums O).length = (n + 1) := by simp [lowL, hnl]
            rw [hll] at h1 h2 ⊢
            have hsb := rdNew_sb (c := c') h2
            refine ⟨(.slice A' (n + 1) c', fun _ => False), ?_, hbl, ⟨?_, ?_⟩, ?_, ?_⟩
            · show Ending.returned (Value.agg #[Value.slice A' (n + 1) c', I (lowO nums O)]) = Ending.returned (Value.agg #[slV (n + 1) (.slice A' (n + 1) c', fun _ => False), I (lowO nums O)])
              rw [slV_eq h1]
            · rw [slV_eq h1]
              exact ⟨A', c', rfl, h2.rd, fun _ => h1⟩
            · rw [slV_eq h1]
              exact fun k hk => Nat.le_trans hs.fr.size (hsb k hk).1
            · rw [slV_eq h1]
              exact fun k hk => hsb k hk.1
            · exact fun w1 w2 q1 q2 q3 => ⟨steady_rdv w1 w2 (fun k hk => q1 k ⟨hk, q3.2 k hk⟩) q2 q3.1, q3.2⟩
          refine GC.choice 10 rfl _ rfl (StepsC.yieldGF 2 s (lowL nums O, lowO nums O) Z hRd hmemc rfl hTW rfl rfl rfl ⟨fun h => h, fun h => h, trivial⟩ rfl rfl rfl rfl rfl rfl (fun hct y b hne hb => ?_) (fun hct ρ w hs hok => ?_)) rfl yieldGF_nm rfl ?_
          · refine canF_all (Q := fun y b => y ≠ 2 → y < 1000 ∧ Blk.calm T 0 b) ?_ ?_ ?_ y b hb hne
            · rfl
            · exact fun y b hb hne => calm_of (T := T) (xJ := 2) (ml := [(1, .say S2 R2), (2, .say Z (J s Z)), (9, .var 29 [accV 833 1 (n + 1) kp, .k (I O)]), (833, accB 3 1 (n + 1) kp (elI nums))]) ⟨.inr ⟨(by show (1 : Nat) < 1000; decide), hTs⟩, .inl rfl, .inr ⟨(by show (9 : Nat) < 1000; decide), trivial⟩, .inr ⟨(by show (833 : Nat) < 1000; decide), (calm_accB : Blk.calm T 0 (accB 3 1 (n + 1) kp (elI nums)))⟩, trivial⟩ y b hne hb
            refine ⟨⟨fun _ => ⟨(by show (784 : Nat) < 1000; decide), fun k hk hk' => ?_⟩, trivial⟩, ?_⟩
            · have := hTW k hk
              have := hk'.2.2
              omega
            · repeat (first | exact trivial | refine ⟨trivial, ?_⟩)
          · obtain ⟨f1, f2⟩ := hs.sayAt (X := 784) rfl
            obtain ⟨f3, f4⟩ := f1 hct
            have hv : ∀ k, vbk (.agg #[slV (n + 1) (c 9), I (lowO nums O)]) k → sb (slV (n + 1) (c 9)) k := by
              rintro k ⟨u, hu, hk⟩
              simp at hu
              rcases hu with rfl | rfl
              · exact hk
              · exact hk.elim
            refine ⟨⟨⟨slV (n + 1) (c 9), rfl, IntsAt.of f3 (by simp [lowL, hnl]) fun _ _ => rfl⟩, fun k hk => Nat.le_trans hlo (f4 k (hv k hk))⟩, fun k hk => ⟨f4 k (hv k hk), f2 k ⟨hct, hv k hk, f4 k (hv k hk)⟩⟩⟩
          refine GC.more tfine 11 rfl rfl rfl (by simp [AllP, condB]) ?_
          refine GC.nil ?_
          refine G.cond (b := false) ?_ (fun h => by cases h) (fun _ => ?_)
          · cases cb <;> rfl
          refine G.skip ?_
          exact ⟨rfl, _, rfl, fun k hk => hk.2, rfl⟩
        ·
          intro c c' j hj h
          have hj : j < 13 := hj
          match j, hj, h with
          | 0, _, h => first | rfl | (show some _ = some _; done)
          | 1, _, h => first | rfl | (show some _ = some _; done)
          | 2, _, h => first | rfl | (show some _ = some _; done)
          | 3, _, h => first | rfl | (show some _ = some _; done)
          | 4, _, h => first | rfl | (show some _ = some _; done)
          | 5, _, h => first | rfl | (show some _ = some _; done)
          | 6, _, h => first | rfl | (show some _ = some _; done)
          | 7, _, h => first | rfl | (show some _ = some _; done)
          | 8, _, h => first | rfl | (show some _ = some _; done)
          | 9, _, h => first | rfl | (show some _ = some _; (try rw [h 9 (.inl rfl)]); (try rw [h 9 (.inr ⟨rfl, rfl⟩)]); done)
          | 10, _, h => first | rfl | (show some _ = some _; (try rw [h 9 (.inl rfl)]); (try rw [h 9 (.inr ⟨rfl, rfl⟩)]); (try rw [h 10 (.inl rfl)]); (try rw [h 10 (.inr ⟨rfl, rfl⟩)]); done)
          | 11, _, h => first | rfl | (show some _ = some _; (try rw [h 9 (.inl rfl)]); (try rw [h 9 (.inr ⟨rfl, rfl⟩)]); (try rw [h 10 (.inl rfl)]); (try rw [h 10 (.inr ⟨rfl, rfl⟩)]); done)
          | 12, _, h => first | rfl | (show some _ = some _; (try rw [h 9 (.inl rfl)]); (try rw [h 9 (.inr ⟨rfl, rfl⟩)]); (try rw [h 10 (.inl rfl)]); (try rw [h 10 (.inr ⟨rfl, rfl⟩)]); done)
          | q + 13, hj, h => exact absurd hj (by omega)
end Go.Proofs.Ytafhnfcahhlanaa
/- Chapter 27: the corners are an iterator. -/
set_option linter.unusedVariables false
set_option linter.unusedSimpArgs false
set_option maxRecDepth 8000
set_option maxHeartbeats 2000000
namespace Go.Proofs.Ytafhnfcahhlanaa
open Go.Sx Go.RowKit
theorem choose_in {n k : Nat} {l : List Int} (h : l ∈ chooseM n k) : l.length = k ∧ ∀ x ∈ l, 0 ≤ x ∧ x < n := by
  obtain ⟨s, _, e, hk⟩ := choose_mem h
  refine ⟨hk, fun x hx => ?_⟩
  subst e
  exact mem_setN hx
/-- What the rounds of an iterator over choices keep. -/
def keepI {α : Type} (S2 : Nat → Prop) (R2 : World → Prop) (f : List Int → Option α) (J : List α → (Nat → Prop) → World → Prop) (s : List (List Int)) (Z : Nat → Prop) (W : World) : Prop :=
  ∃ Z', (∀ k, Z k ↔ (Z' k ∨ S2 k)) ∧ R2 W ∧ J (s.filterMap f) Z' W
theorem keepI_steady {α : Type} {S2 : Nat → Prop} {R2 : World → Prop} {f : List Int → Option α} {J : List α → (Nat → Prop) → World → Prop} (h2 : Steady S2 R2) (hJ : ∀ s Z, Steady Z (J s Z)) (s : List (List Int)) (Z : Nat → Prop) : Steady Z (keepI S2 R2 f J s Z) := by
  rintro w1 w2 a1 a2 ⟨Z', e1, e2, e3⟩
  exact ⟨Z', e1, h2 w1 w2 (fun k hk => a1 k ((e1 k).2 (.inr hk))) a2 e2, hJ _ _ w1 w2 (fun k hk => a1 k ((e1 k).2 (.inl hk))) a2 e3⟩
theorem corners_iter (L : List Cond) (lv : Value) (vs : Nat → Value) (n b1 b2 : Nat) (w : World) (S0 : Nat → Prop) (hc : ConsAt w lv L vs) (hS0 : Steady S0 (fun w => ConsAt w lv L vs)) (hlt0 : ∀ k, S0 k → k < w.heap.size) (hsb0 : ∀ k, sb lv k → S0 k)
    (h1 : w.heap[b1]? = some (.cells #[lv] 59 (0, 0))) (h2 : w.heap[b2]? = some (.cells #[I n] 3 (0, 0))) (hL : L.length ≤ 8) (hn : n ≤ 8) (hrow : ∀ c ∈ L, c.1.length = n)
    (hg : ∀ set ∈ chooseM L.length n, overM L n set ≠ 0 → keepsM L (cornN L n set) (absW (overM L n set)) = true → gL (cornN L n set) (absW (overM L n set)) ≠ 0) :
    Iter Try.prog (.func (.func 74) #[] #[Pt b1, Pt b2]) (fun k => (k = b1 ∨ k = b2) ∨ S0 k) RelR (cornersM L n) w := by
  refine ⟨74, #[Pt b1, Pt b2], rfl, fun args w => Try.call74 args w, ?_⟩
  intro l0 T J Z W hrd hsz hT hZ hR hJ
  rw [show (#[.func (.yield l0) #[] #[]] ++ #[Pt b1, Pt b2] : Array Value) = #[.func (.yield l0) #[] #[], Pt b1, Pt b2] from by simp]
  obtain ⟨AL, cL, hlv⟩ : ∃ AL cL, lv = .slice AL L.length cL := by obtain ⟨A, c, e, _⟩ := hc; exact ⟨A, c, e⟩
  subst hlv
  obtain ⟨S1, hS1⟩ : ∃ S1 : Nat → Prop, S1 = fun x => (x = b1 ∨ x = b2) ∨ S0 x := ⟨_, rfl⟩
  obtain ⟨R1, hR1⟩ : ∃ R1 : World → Prop, R1 = fun w => (w.heap[b1]? = some (.cells #[.slice AL L.length cL] 59 (0, 0)) ∧ w.heap[b2]? = some (.cells #[I n] 3 (0, 0))) ∧ ConsAt w (.slice AL L.length cL) L vs := ⟨_, rfl⟩
  have hst1 : Steady S1 R1 := by rw [hS1, hR1]; exact ((Steady.heap (.inl (.inl rfl))).and (Steady.heap (.inl (.inr rfl)))).and (hS0.mono fun k hk => .inr hk)
  have hRW : R1 W := hst1 w W (fun k hk => hrd k (by rw [hS1] at hk; exact hk)) hsz (by rw [hR1]; exact ⟨⟨h1, h2⟩, hc⟩)
  have hlt1 : ∀ k, S1 k → k < W.heap.size := by
    rw [hS1]
    rintro k ((rfl | rfl) | hk)
    · have := lt_of_heap h1; omega
    · have := lt_of_heap h2; omega
    · have := hlt0 k hk; omega
  have hTW : ∀ k ∈ T, k < W.heap.size := fun k hk => (hT k hk).1
  have hTS : ∀ k ∈ T, ¬ S1 k := by rw [hS1]; exact fun k hk => (hT k hk).2
  refine enterRaw T [.c (.k (.func (.yield l0) #[] #[])), .c (.k (Pt b1)), .c (.k (Pt b2))] [(1, .say S1 R1), (2, .say Z (J [] Z))] Try.func74 rfl 88 Try.ntmps74 rfl rfl ⟨trivial, trivial, trivial, trivial⟩
    ⟨⟨hRW, hlt1, hst1⟩, ⟨fun h => h.elim, fun h => h.elim, trivial⟩, ⟨hJ, hZ, hR.1 _ _⟩, trivial, trivial⟩ fun ρ0 a0 hs0 => ?_
  have hb1 : ∀ w, R1 w → w.heap[b1]? = some (.cells #[.slice AL L.length cL] 59 (0, 0)) := fun w h => by rw [hR1] at h; exact h.1.1
  have hb2 : ∀ w, R1 w → w.heap[b2]? = some (.cells #[I n] 3 (0, 0)) := fun w h => by rw [hR1] at h; exact h.1.2
  refine rawSeq rfl hs0 (G.reg tfine rfl trivial ⟨rfl, fun ρ1 a1 w1 hs1 => ?_⟩)
  refine rawSeq rfl hs1 (G.regC tfine rfl trivial ?_)
  refine GO.steps (Steps.loadK tfine 1 [.slice AL L.length cL] rfl rfl rfl rfl rfl hb1 rfl rfl) ?_
  refine GO.more tfine rfl trivial ?_
  refine GO.steps (Steps.loadK tfine 1 [I n] rfl rfl rfl rfl rfl hb2 rfl rfl) ?_
  refine GO.callSay 715 (boxV 94) boxS (boxR (I L.length) (I n) 3 3 W.heap.size) rfl rfl rfl rfl rfl (fun args w => Try.call75 args w) (fun ρ w hs hok => choices_any W.heap.size L.length n w hs.fr.size) fun g => ?_
  refine GO.nil ⟨rfl, fun ρ2 a2 w2 hs2 => ?_⟩
  have k1 := hs2.tmK (j := 1) (v := Pt b1) rfl
  have k2 := hs2.tmK (j := 2) (v := Pt b2) rfl
  have k15 := hs2.tmK (j := 15) (v := boxV 94 g) rfl
  obtain ⟨k3, p3, q3, r3⟩ := hs2.tmP (j := 3) (x := 3) (off := 0) rfl rfl
  obtain ⟨f1, _⟩ := hs2.mem.sayAt (X := 1) rfl
  obtain ⟨f2, f2'⟩ := hs2.mem.sayAt (X := 2) rfl
  obtain ⟨⟨⟨g1, g2⟩, g3, g4⟩, g5⟩ := hs2.mem.sayAt (X := 715) rfl
  have hfrW := hs2.mem.fr
  simp only [borT_snd] at hfrW
  have hdf := hs2.df
  have hsz2 := hs2.sz
  obtain ⟨p, hp⟩ : ∃ p, p = (ρ2 3).1 := ⟨_, rfl⟩
  rw [← hp] at k3 p3 q3 r3
  have p3 : w2.heap[p]? = some (.cells #[.func (.yield l0) #[] #[]] 79 (0, 0)) := p3
  have hpW : W.heap.size ≤ p := by
    rcases q3 with h | h
    · exact h
    · have := borT_mem h; omega
  obtain ⟨S2, hS2⟩ : ∃ S2 : Nat → Prop, S2 = fun k => S1 k ∨ k = p := ⟨_, rfl⟩
  obtain ⟨R2, hR2⟩ : ∃ R2 : World → Prop, R2 = fun w => R1 w ∧ w.heap[p]? = some (.cells #[.func (.yield l0) #[] #[]] 79 (0, 0)) := ⟨_, rfl⟩
  have hst2 : Steady S2 R2 := by rw [hS2, hR2]; exact (hst1.mono fun k hk => .inl hk).and (Steady.heap (.inr rfl))
  have hR12 : ∀ w, R2 w → R1 w := fun w h => by rw [hR2] at h; exact h.1
  have hTS2 : ∀ k ∈ T, ¬ S2 k := by
    rw [hS2]
    rintro k hk (h | rfl)
    · exact hTS k hk h
    · have := hTW _ hk; omega
  have hWw : W.heap.size ≤ w2.heap.size := hfrW.size
  have hS2w : ∀ k, S2 k → k < w2.heap.size := by
    rw [hS2]
    rintro k (h | rfl)
    · have := hlt1 k h; omega
    · exact r3
  refine wpIn_block ?_
  refine wp_range (gv := boxV 94 g) k15 (choices_iter L.length n g.1 g.2 w2 hL g1 g2) (fun k hk => (g5 k hk).1) T ?_ (keepI S2 R2 (cornerM L n) J) (keepI_steady hst2 hR.1) (fun k => Z k ∨ S2 k) ?_ ⟨Z, fun _ => Iff.rfl, by rw [hR2]; exact ⟨f1, p3⟩, f2⟩ ?_ ?_
  · rintro k hk
    have := hTW k hk
    exact ⟨by omega, fun h => by rcases h with rfl | rfl <;> omega⟩
  · rintro k (hk | hk)
    · have := hZ k hk; omega
    · exact hS2w k hk
  · rintro l s x v Zk W1 hx hl hsame hlt ⟨Z', e1, e2, e3⟩ hZ1 ⟨A5, c5, rfl, hrd5, hc5⟩ hv
    obtain ⟨hlen, hin⟩ := choose_in hx
    have hsA : Sat ⟨W1, borT 1000 [], 88, some l, []⟩ (ρT 1000 []) (St.of [(1, .v (.c (.k (Pt b1)))), (2, .v (.c (.k (Pt b2)))), (3, .v (.c (.k (Pt p)))), (16, .v (.c (.k (.slice A5 x.length c5))))] []) { tmps := a2.tmps.setIfInBounds 16 (.slice A5 x.length c5), defers := [] } W1 :=
      Sat.say0 (Nat.le_refl _) rfl (by rw [Array.size_setIfInBounds]; exact hsz2) ⟨by rw [getD_setNe (show (1 : Nat) ≠ 16 by decide), k1]; rfl, by rw [getD_setNe (show (2 : Nat) ≠ 16 by decide), k2]; rfl, by rw [getD_setNe (show (3 : Nat) ≠ 16 by decide), k3]; rfl, by rw [getD_setEq (by rw [hsz2]; show 16 < 88; decide)]; rfl, trivial⟩ trivial
    refine ⟨fun a₁ w₁ => ∃ ρ, Sat ⟨W1, borT 1000 [], 88, some l, []⟩ ρ (St.of [(1, .v (.c (.k (Pt b1)))), (2, .v (.c (.k (Pt b2)))), (3, .v (.c (.k (Pt p)))), (4, .v (.c (.k (.slice A5 x.length c5))))] []) a₁ w₁, assign_wp rfl hsA rfl (G.reg tfine rfl trivial ⟨rfl, St.le_of rfl trivial ⟨rfl, rfl, rfl, rfl, trivial⟩⟩), ?_⟩
    rintro a₁ w₁ ⟨ρ', hs1'⟩
    have hfr1 : Fr W1 [] w₁ := hs1'.mem.fr
    refine ⟨hfr1, fun W3 hsm hsz3 hoth => ?_⟩
    have t1 := hs1'.tmK (j := 1) (v := Pt b1) rfl
    have t2 := hs1'.tmK (j := 2) (v := Pt b2) rfl
    have t3 := hs1'.tmK (j := 3) (v := Pt p) rfl
    have t4 := hs1'.tmK (j := 4) (v := .slice A5 x.length c5) rfl
    have hmv : ∀ {S : Nat → Prop} {R : World → Prop}, Steady S R → (∀ k, S k → k < W1.heap.size ∧ k ≠ l) → R W1 → R W3 := fun hst hS hR => hst W1 W3 (fun k hk => (hoth k (hS k hk).2).trans (hfr1.block k (hS k hk).1 (by simp))) (by rw [hsz3]; exact hfr1.size) hR
    have hZ' : ∀ k, Z' k → k < W1.heap.size ∧ k ≠ l := fun k hk => hZ1 k ((e1 k).2 (.inl hk))
    have hS2' : ∀ k, S2 k → k < W1.heap.size ∧ k ≠ l := fun k hk => hZ1 k ((e1 k).2 (.inr hk))
    have h13 : W1.heap.size ≤ W3.heap.size := by rw [hsz3]; exact hfr1.size
    have hv' : ∀ k, sb (.slice A5 x.length c5) k → k < W1.heap.size ∧ k ≠ l := fun k hk => ⟨(hv k hk).1, (hv k hk).2.2⟩
    have hsB : Sat ⟨W3, borT 1000 T, 88, some l, []⟩ (ρT 1000 T) (St.of [(1, .v (.c (.k (Pt b1)))), (2, .v (.c (.k (Pt b2)))), (3, .v (.c (.k (Pt p)))), (4, .v (.c (.k (.slice A5 x.length c5))))] [(1, .say S2 R2), (2, .say Z' (J (s.filterMap (cornerM L n)) Z')), (5, .say (sb (.slice A5 x.length c5)) (fun w => IntsAt w (.slice A5 x.length c5) x))]) a₁ W3 :=
      Sat.say0 (Nat.le_refl _) hs1'.df hs1'.sz ⟨by rw [t1]; rfl, by rw [t2]; rfl, by rw [t3]; rfl, by rw [t4]; rfl, trivial⟩
        ⟨⟨hmv hst2 hS2' e2, fun k hk => Nat.lt_of_lt_of_le (hS2' k hk).1 h13, hst2⟩, ⟨fun h => h.elim, fun h => h.elim, fun h => h.elim, fun h => h.elim, trivial⟩, ⟨hmv (hR.1 _ _) hZ' e3, fun k hk => Nat.lt_of_lt_of_le (hZ' k hk).1 h13, hR.1 _ _⟩, ⟨fun h => h.elim, fun h => h.elim, trivial⟩, ⟨hmv steady_ints hv' ⟨A5, c5, rfl, hrd5, hc5⟩, fun k hk => Nat.lt_of_lt_of_le (hv' k hk).1 h13, steady_ints⟩, trivial, trivial⟩
    have hWW3 : Same W W3 := ((hfrW.same.trans hsame).trans hfr1.same).trans hsm
    refine body_wp rfl hsB rfl (corner_round L AL A5 cL c5 vs n b1 b2 p l0 l W.heap.size W3 T J (s.filterMap (cornerM L n)) Z' S2 R2 x (fun w h => hb1 w (hR12 w h)) (fun w h => hb2 w (hR12 w h)) (fun w h => by rw [hR2] at h; exact h.2) (fun w h => by have := hR12 w h; rw [hR1] at this; exact this.2)
      (fun k hk => by rw [hS2, hS1]; exact .inl (.inr (hsb0 k hk))) hTS2 (fun k hk hk' => (hv k hk').2.1 hk) (fun k hk => by have := hTW k hk; have := hWW3.size; omega) (hR.later hWW3) hWW3.size hL hn hrow hlen hin hx (hg x hx)) ?_
    rintro e ρ st a w' hs ⟨rfl, Zn, m2, hZn, m1⟩
    obtain ⟨j1, j2, _⟩ := hs.mem.ok 2 _ m2
    obtain ⟨i1, i2, _⟩ := hs.mem.ok 1 _ m1
    have hfr3 := hs.mem.fr
    simp only [borT_snd] at hfr3
    refine ⟨rfl, hfr3, fun k => Zn k ∨ S2 k, ⟨Zn, fun _ => Iff.rfl, i1, ?_⟩, ?_⟩
    · have e : (s ++ [x]).filterMap (cornerM L n) = s.filterMap (cornerM L n) ++ (cornerM L n x).toList := by
        rw [List.filterMap_append]
        congr 1
      rw [e]
      exact j1
    · rintro k (hk | hk)
      · refine ⟨?_, j2 k hk⟩
        rcases hZn k hk with h | h
        · exact .inl ((e1 k).2 (.inl h))
        · exact .inr (.inr (by omega))
      · exact ⟨.inl ((e1 k).2 (.inr hk)), i2 k hk⟩
  · rintro Zf W3 hfr ⟨Z', e1, e2, e3⟩ hZf hK
    refine marks_end (.inr rfl) (by rw [hdf]) hK (results_none (fn := Try.f74) rfl _ _ _) ⟨⟨_, rfl⟩, ?_, Z', ?_, ?_⟩
    · exact (hfrW.trans' hfr fun k _ h => h).putObj (.inl hWw) _
    · exact hR.1 _ _ W3 _ (fun k hk => World.putObj_heap_other (hZf k ((e1 k).2 (.inl hk))).2) (by simp) e3
    · intro k hk
      rw [World.putObj_size]
      exact (hZf k ((e1 k).2 (.inl hk))).1
end Go.Proofs.Ytafhnfcahhlanaa
/- Chapter 27: a round of best. -/
set_option linter.unusedVariables false
set_option linter.unusedSimpArgs false
set_option maxRecDepth 8000
set_option maxHeartbeats 2000000
namespace Go.Proofs.Ytafhnfcahhlanaa
open Go.Sx Go.RowKit
def cur (o : Option Rat) : Rat := o.getD ([], 0)
def cOf (by_ : List Int) (o : Option Rat) (x : Rat) : Int := if o.isSome = true then cmpM (dotL by_ x.1) x.2 (dotL by_ (cur o).1) (cur o).2 else 1
def takes (by_ : List Int) (o : Option Rat) (x : Rat) : Bool := decide (cOf by_ o x > 0) || (cOf by_ o x == 0 && decide (ordM x.1 x.2 (cur o).1 (cur o).2 < 0))
def bstep (by_ : List Int) (o : Option Rat) (x : Rat) : Option Rat := if takes by_ o x = true then some x else o
def bestM (by_ : List Int) (xs : List Rat) : Option Rat := xs.foldl (bstep by_) none
theorem bestM_snoc (by_ : List Int) (s : List Rat) (x : Rat) : bestM by_ (s ++ [x]) = bstep by_ (bestM by_ s) x := by simp [bestM]
theorem takes_none (by_ : List Int) (x : Rat) : takes by_ none x = true := by
  have : cOf by_ none x = 1 := by simp [cOf]
  simp [takes, this]
theorem bestM_mem (by_ : List Int) (xs s : List Rat) (hs : ∀ x ∈ s, x ∈ xs) : ∀ x, bestM by_ s = some x → x ∈ xs := by
  have key : ∀ (s : List Rat) (o : Option Rat), (∀ x ∈ s, x ∈ xs) → (∀ x, o = some x → x ∈ xs) → ∀ x, s.foldl (bstep by_) o = some x → x ∈ xs := by
    intro s
    induction s with
    | nil => intro o _ ho x hx; exact ho x hx
    | cons y s ih =>
      intro o hs ho x hx
      refine ih _ (fun z hz => hs z (List.mem_cons_of_mem _ hz)) (fun z hz => ?_) x hx
      unfold bstep at hz
      split at hz
      · cases hz; exact hs _ List.mem_cons_self
      · exact ho z hz
  exact key s none hs (fun x h => by cases h)
def bodyL : Code → Code
  | .seq (.seq _ b) _ => bodyR b
  | .seq _ y => bodyL y
  | c => c
noncomputable def body32 : Code := bodyL (Try.f32.body.getD .skip)
theorem best_round (by_ : List Int) (B An Ax : Option Addr) (d cn cx g3 l : Nat) (g6 g7 g8 : Nat) (W2 : World) (o : Option Rat) (x : Rat) (S2 : Nat → Prop) (R2 : World → Prop)
    (h3 : ∀ w, R2 w → w.heap[g3]? = some (.cells #[.slice B by_.length d] 22 (0, 0))) (hB : ∀ w, R2 w → RdRow w B by_.length 1 (elI by_)) (hx : x.1.length = by_.length) (ho : o.isSome = true → (cur o).1.length = by_.length) (hn : by_.length ≤ 100000)
    (hm1 : -9223372036854775808 < dotL by_ x.1) (hm2 : ∀ k, k < x.1.length → -9223372036854775808 < x.1.getD k 0) (hcn : 0 < (cur o).1.length → (cur o).1.length ≤ cn) (hcx : 0 < x.1.length → x.1.length ≤ cx) :
    G Try.prog ⟨W2, borT 1000 [g6, g7, g8], 42, some l, []⟩ (fun e st => e = .normal ∧ st.m 1000 = some (.var 29 [.k (bif takes by_ o x then .slice Ax x.1.length cx else .slice An (cur o).1.length cn), .k (I (bif takes by_ o x then x.2 else (cur o).2))]) ∧ st.m 1001 = some (.var 4 [.k (.bool (takes by_ o x || o.isSome))])
        ∧ st.m 1002 = some (.var 29 [.k (.slice Ax x.1.length cx), .k (I x.2)]) ∧ st.m 1 = some (.say S2 R2) ∧ st.m 4 = some (.say (sb (.slice An (cur o).1.length cn)) (fun w => IntsAt w (.slice An (cur o).1.length cn) (cur o).1)) ∧ st.m 5 = some (.say (sb (.slice Ax x.1.length cx)) (fun w => IntsAt w (.slice Ax x.1.length cx) x.1))) body32
      (St.of [(3, .v (.c (.k (Pt g3)))), (6, .v (.c (.ptr 1000 0 0 0))), (7, .v (.c (.ptr 1001 0 0 0))), (8, .v (.c (.ptr 1002 0 0 0)))]
        [(1000, .var 29 [.k (.slice An (cur o).1.length cn), .k (I (cur o).2)]), (1001, .var 4 [.k (.bool o.isSome)]), (1002, .var 29 [.k (.slice Ax x.1.length cx), .k (I x.2)]), (1, .say S2 R2), (4, .say (sb (.slice An (cur o).1.length cn)) (fun w => IntsAt w (.slice An (cur o).1.length cn) (cur o).1)), (5, .say (sb (.slice Ax x.1.length cx)) (fun w => IntsAt w (.slice Ax x.1.length cx) x.1))]) := by
  have rowOf : ∀ {w : World} {A : Option Addr} {l : List Int} {c : Nat}, IntsAt w (.slice A l.length c) l → RdRow w A l.length 1 (elI l) := fun h => by obtain ⟨A', c', e, h1, _⟩ := h; cases e; exact h1
  refine G.block (id := 1) ?_
  refine G.seqR tfine rfl trivial ?_
  obtain ⟨os, hos⟩ : ∃ os, os = o.isSome := ⟨_, rfl⟩
  rw [← hos] at ho ⊢
  refine G.join (fun c : Int => St.of [(3, .v (.c (.k (Pt g3)))), (6, .v (.c (.ptr 1000 0 0 0))), (7, .v (.c (.ptr 1001 0 0 0))), (8, .v (.c (.ptr 1002 0 0 0))), (9, .v (.c (.k (I c))))]
        [(1000, .var 29 [.k (.slice An (cur o).1.length cn), .k (I (cur o).2)]), (1001, .var 4 [.k (.bool os)]), (1002, .var 29 [.k (.slice Ax x.1.length cx), .k (I x.2)]), (1, .say S2 R2), (4, .say (sb (.slice An (cur o).1.length cn)) (fun w => IntsAt w (.slice An (cur o).1.length cn) (cur o).1)), (5, .say (sb (.slice Ax x.1.length cx)) (fun w => IntsAt w (.slice Ax x.1.length cx) x.1))]) (fun c => c = cOf by_ o x) ?_ ?_
  · refine G.seqR tfine rfl trivial ?_
    refine G.cond (b := os) rfl (fun h => ?_) (fun h => ?_)
    · have hl := ho h
      refine G.draw (cls := [0, 0, 2, 7, 0, 16, 0, 0, 128, 463, 0, 1024, 4095, 8191]) (X := []) hmix rfl rfl rfl ?_
      refine GD.stepF 0 rfl (Steps.loadK tfine 1 [.slice B by_.length d] rfl rfl rfl rfl rfl h3 rfl rfl) rfl ?_
      refine GD.more tfine 1 rfl rfl trivial ?_
      refine GD.call (v := I (dotL by_ x.1)) 3 rfl rfl rfl rfl rfl (fun args w => Try.call39 args w) (fun m' hle ρ w1 hs _ => dot_any B Ax d cx by_ x.1 w1 (hB _ (hs.ok 1 _ (hle.at rfl)).1) (rowOf (hs.ok 5 _ (hle.at rfl)).1) (by omega) (by omega)) ?_
      refine GD.more tfine 4 rfl rfl trivial ?_
      refine GD.stepF 6 rfl (Steps.loadK tfine 1 [.slice B by_.length d] rfl rfl rfl rfl rfl h3 rfl rfl) rfl ?_
      refine GD.more tfine 7 rfl rfl trivial ?_
      refine GD.call (v := I (dotL by_ (cur o).1)) 9 rfl rfl rfl rfl rfl (fun args w => Try.call39 args w) (fun m' hle ρ w1 hs _ => dot_any B An d cn by_ (cur o).1 w1 (hB _ (hs.ok 1 _ (hle.at rfl)).1) (rowOf (hs.ok 4 _ (hle.at rfl)).1) (by omega) (by omega)) ?_
      refine GD.more tfine 10 rfl rfl trivial ?_
      refine GD.call (v := I (cmpM (dotL by_ x.1) x.2 (dotL by_ (cur o).1) (cur o).2)) 12 rfl rfl rfl rfl rfl (fun args w => Try.call72 args w) (fun m' hle ρ w1 hs _ => cmp_any _ _ _ _ w1 hm1) ?_
      refine GD.fin tfine 13 rfl rfl trivial ?_
      refine ⟨_, ?_, St.le_of rfl ⟨⟨_, rfl, Blk.le_refl _⟩, ⟨_, rfl, Blk.le_refl _⟩, ⟨_, rfl, Blk.le_refl _⟩, ⟨_, rfl, Blk.le_refl _⟩, ⟨_, rfl, Blk.le_refl _⟩, ⟨_, rfl, Blk.le_refl _⟩, trivial⟩ ⟨rfl, rfl, rfl, rfl, rfl, trivial⟩⟩
      rw [cOf, if_pos (by rw [← hos]; exact h)]
    · refine G.skip ?_
      refine ⟨1, ?_, St.le_of rfl ⟨⟨_, rfl, Blk.le_refl _⟩, ⟨_, rfl, Blk.le_refl _⟩, ⟨_, rfl, Blk.le_refl _⟩, ⟨_, rfl, Blk.le_refl _⟩, ⟨_, rfl, Blk.le_refl _⟩, ⟨_, rfl, Blk.le_refl _⟩, trivial⟩ ⟨rfl, rfl, rfl, rfl, rfl, trivial⟩⟩
      rw [cOf, if_neg (by rw [← hos, h]; decide)]
  rintro c hc
  obtain ⟨tk, htk⟩ : ∃ tk, tk = takes by_ o x := ⟨_, rfl⟩
  have htk2 : tk = (decide (c > 0) || (c == 0 && decide (ordM x.1 x.2 (cur o).1 (cur o).2 < 0))) := by rw [htk, hc]; rfl
  rw [← htk]
  refine G.seqC tfine rfl ?_ ?_
  · first | trivial | (simp [AllP, condB]; done) | (simp only [AllP]; and_intros <;> first | trivial | decide | omega) | (simp [AllP, condB]; intros; and_intros <;> first | assumption | omega) | (simp [AllP, condB]; intros; simp_all; done)
  refine GO.callGuard (I (ordM x.1 x.2 (cur o).1 (cur o).2)) rfl rfl rfl ⟨fun h => h, fun h => h, trivial⟩ rfl rfl (fun args w => Try.call73 args w) rfl (fun hct m' hle ρ w1 hs hok => ?_) ?_
  · have hot : os = true := by
      cases hh : os with
      | true => rfl
      | false =>
        have : c = 1 := by rw [hc, cOf, if_neg (by rw [← hos, hh]; decide)]
        rw [this] at hct
        exact absurd hct (by decide)
    have hl := ho hot
    exact order_any Ax An cx cn x.1 (cur o).1 x.2 (cur o).2 w1 (rowOf (hs.ok 5 _ (hle.at rfl)).1) (rowOf (hs.ok 4 _ (hle.at rfl)).1) (by omega) (by omega) hm2
  refine GO.fin tfine rfl ?_ ?_
  · first | trivial | (simp [AllP, condB]; done) | (simp only [AllP]; and_intros <;> first | trivial | decide | omega) | (simp [AllP, condB]; intros; and_intros <;> first | assumption | omega) | (simp [AllP, condB]; intros; simp_all; done)
  refine G.cond (b := tk) ?_ (fun h => ?_) (fun h => ?_)
  · rw [htk2]
    generalize decide (c > 0) = p
    generalize (c == 0) = q
    generalize decide (ordM x.1 x.2 (cur o).1 (cur o).2 < 0) = r
    cases p <;> cases q <;> cases r <;> rfl
  · rw [h]
    refine G.reg tfine rfl trivial ?_
    exact ⟨rfl, rfl, rfl, rfl, rfl, rfl, rfl⟩
  · rw [h]
    refine G.skip ?_
    exact ⟨rfl, rfl, rfl, rfl, rfl, rfl, rfl⟩
end Go.Proofs.Ytafhnfcahhlanaa
/- Chapter 27: the best of the ratios that an iterator gives. -/
set_option linter.unusedVariables false
set_option linter.unusedSimpArgs false
set_option maxRecDepth 8000
set_option maxHeartbeats 2000000
namespace Go.Proofs.Ytafhnfcahhlanaa
open Go.Sx Go.RowKit
/-- What the rounds of best keep. -/
def keepB (by_ : List Int) (S2 : Nat → Prop) (R2 : World → Prop) (g6 g7 g4 lo : Nat) (xs s : List Rat) (Z : Nat → Prop) (W : World) : Prop :=
  ∃ nv, (∀ k, Z k ↔ ((sb nv k ∨ S2 k) ∨ (k = g6 ∨ k = g7 ∨ k = g4))) ∧ (∀ k, sb nv k → lo ≤ k ∧ k ≠ g6 ∧ k ≠ g7 ∧ k ≠ g4) ∧ R2 W ∧ W.heap[g6]? = some (.cells #[nv, I (cur (bestM by_ s)).2] 29 (0, 0)) ∧ W.heap[g7]? = some (.cells #[.bool (bestM by_ s).isSome] 4 (0, 0)) ∧ W.heap[g4]? = some (.cells #[.slice none 0 0, I 0] 29 (0, 0)) ∧ IntsAt W nv (cur (bestM by_ s)).1 ∧ ∀ y ∈ s, y ∈ xs
theorem keepB_steady {by_ : List Int} {S2 : Nat → Prop} {R2 : World → Prop} {g6 g7 g4 lo : Nat} {xs : List Rat} (h2 : Steady S2 R2) (s : List Rat) (Z : Nat → Prop) : Steady Z (keepB by_ S2 R2 g6 g7 g4 lo xs s Z) := by
  rintro w1 w2 a1 a2 ⟨nv, e1, e2, e3, e4, e5, e6, e7, e8⟩
  exact ⟨nv, e1, e2, h2 w1 w2 (fun k hk => a1 k ((e1 k).2 (.inl (.inr hk)))) a2 e3, (a1 g6 ((e1 g6).2 (.inr (.inl rfl)))).trans e4, (a1 g7 ((e1 g7).2 (.inr (.inr (.inl rfl))))).trans e5, (a1 g4 ((e1 g4).2 (.inr (.inr (.inr rfl))))).trans e6, steady_ints w1 w2 (fun k hk => a1 k ((e1 k).2 (.inl (.inl hk)))) a2 e7, e8⟩
theorem IntsAt.nil (w : World) : IntsAt w (.slice none 0 0) [] := ⟨none, 0, rfl, RdRow.nil _ _ _ _, fun h => absurd h (Nat.lt_irrefl 0)⟩
theorem best_any (by_ : List Int) (gv : Value) (hgv : ∃ f a b, gv = .func f a b) (rd : Nat → Prop) (xs : List Rat) (B : Option Addr) (d : Nat) (w : World) (hI : Iter Try.prog gv rd RelR xs w) (hrd : ∀ k, rd k → k < w.heap.size) (hB : RdRow w B by_.length 1 (elI by_)) (hn : by_.length ≤ 100000)
    (hx : ∀ x ∈ xs, x.1.length = by_.length ∧ -9223372036854775808 < dotL by_ x.1 ∧ ∀ k, k < x.1.length → -9223372036854775808 < x.1.getD k 0) :
    Calls Try.prog 32 #[gv, .slice B by_.length d] w fun e w' => ∃ nv, e = .returned (.tuple #[.agg #[nv, I (cur (bestM by_ xs)).2], .bool (bestM by_ xs).isSome]) ∧ Below w.heap.size w w' ∧ IntsAt w' nv (cur (bestM by_ xs)).1 ∧ ∀ k, sb nv k → w.heap.size ≤ k ∧ k < w'.heap.size := by
  obtain ⟨gf, ga, gb, rfl⟩ := hgv
  obtain ⟨S1, hS1⟩ : ∃ S1 : Nat → Prop, S1 = fun k => rd k ∨ sb (.slice B by_.length d) k := ⟨_, rfl⟩
  have hlt1 : ∀ k, S1 k → k < w.heap.size := by
    rw [hS1]
    rintro k (hk | hk)
    · exact hrd k hk
    · exact sb_lt hB k hk
  obtain ⟨R1, hR1⟩ : ∃ R1 : World → Prop, R1 = fun w1 => Iter Try.prog (.func gf ga gb) rd RelR xs w1 ∧ RdRow w1 B by_.length 1 (elI by_) := ⟨_, rfl⟩
  have hst1 : Steady S1 R1 := by rw [hS1, hR1]; exact (Iter.steady.mono fun k hk => .inl hk).and (steady_row.mono fun k hk => .inr hk)
  refine enterRaw [] [.c (.k (.func gf ga gb)), .c (.k (.slice B by_.length d))] [(1, .say S1 R1)] Try.func32 rfl 42 Try.ntmps32 rfl rfl ⟨trivial, trivial, trivial⟩
    ⟨⟨by rw [hR1]; exact ⟨hI, hB⟩, hlt1, hst1⟩, trivial, trivial⟩ fun ρ0 a0 hs0 => ?_
  refine rawSeq rfl hs0 (G.reg tfine rfl trivial ⟨rfl, fun ρ1 a1 w1 hs1 => ?_⟩)
  refine rawSeq rfl hs1 (G.reg tfine rfl trivial ⟨rfl, fun ρ2 a2 w2 hs2 => ?_⟩)
  refine wpIn_seq ?_
  refine rawSeq rfl hs2 (G.reg tfine rfl trivial ⟨rfl, fun ρ3 a3 w3 hs3 => ?_⟩)
  have k11 := hs3.tmK (j := 11) (v := .func gf ga gb) rfl
  obtain ⟨k3, p3, q3, r3⟩ := hs3.tmP (j := 3) (x := 3) (off := 0) rfl rfl
  obtain ⟨k4, p4, q4, r4⟩ := hs3.tmP (j := 4) (x := 4) (off := 0) rfl rfl
  obtain ⟨k6, p6, q6, r6⟩ := hs3.tmP (j := 6) (x := 6) (off := 0) rfl rfl
  obtain ⟨k7, p7, q7, r7⟩ := hs3.tmP (j := 7) (x := 7) (off := 0) rfl rfl
  obtain ⟨f1, f1'⟩ := hs3.mem.sayAt (X := 1) rfl
  have ne64 := hs3.mem.ne 6 4 _ _ rfl rfl trivial trivial (by decide)
  have ne74 := hs3.mem.ne 7 4 _ _ rfl rfl trivial trivial (by decide)
  have ne76 := hs3.mem.ne 7 6 _ _ rfl rfl trivial trivial (by decide)
  have ne63 := hs3.mem.ne 6 3 _ _ rfl rfl trivial trivial (by decide)
  have ne73 := hs3.mem.ne 7 3 _ _ rfl rfl trivial trivial (by decide)
  have ne43 := hs3.mem.ne 4 3 _ _ rfl rfl trivial trivial (by decide)
  have hfrW := hs3.mem.fr
  have hdf := hs3.df
  have hsz3 := hs3.sz
  obtain ⟨g3, hg3⟩ : ∃ g3, g3 = (ρ3 3).1 := ⟨_, rfl⟩
  obtain ⟨g4, hg4⟩ : ∃ g4, g4 = (ρ3 4).1 := ⟨_, rfl⟩
  obtain ⟨g6, hg6⟩ : ∃ g6, g6 = (ρ3 6).1 := ⟨_, rfl⟩
  obtain ⟨g7, hg7⟩ : ∃ g7, g7 = (ρ3 7).1 := ⟨_, rfl⟩
  have ne64 : g6 ≠ g4 := by rw [hg6, hg4]; exact ne64
  have ne74 : g7 ≠ g4 := by rw [hg7, hg4]; exact ne74
  have ne76 : g7 ≠ g6 := by rw [hg7, hg6]; exact ne76
  have ne63 : g6 ≠ g3 := by rw [hg6, hg3]; exact ne63
  have ne73 : g7 ≠ g3 := by rw [hg7, hg3]; exact ne73
  have ne43 : g4 ≠ g3 := by rw [hg4, hg3]; exact ne43
  rw [← hg3] at k3 p3 q3 r3
  rw [← hg4] at k4 p4 q4 r4
  rw [← hg6] at k6 p6 q6 r6
  rw [← hg7] at k7 p7 q7 r7
  have p3 : w3.heap[g3]? = some (.cells #[.slice B by_.length d] 22 (0, 0)) := p3
  have p4 : w3.heap[g4]? = some (.cells #[.slice none 0 0, I 0] 29 (0, 0)) := p4
  have p6 : w3.heap[g6]? = some (.cells #[.slice none 0 0, I 0] 29 (0, 0)) := p6
  have p7 : w3.heap[g7]? = some (.cells #[.bool false] 4 (0, 0)) := p7
  have q3 : w.heap.size ≤ g3 := q3.elim id (fun h => by cases h)
  have q4 : w.heap.size ≤ g4 := q4.elim id (fun h => by cases h)
  have q6 : w.heap.size ≤ g6 := q6.elim id (fun h => by cases h)
  have q7 : w.heap.size ≤ g7 := q7.elim id (fun h => by cases h)
  have hfrW : Fr w [] w3 := hfrW
  have hww : w.heap.size ≤ w3.heap.size := hfrW.size
  clear hg3 hg4 hg6 hg7
  obtain ⟨S2, hS2⟩ : ∃ S2 : Nat → Prop, S2 = fun k => S1 k ∨ k = g3 := ⟨_, rfl⟩
  obtain ⟨R2, hR2⟩ : ∃ R2 : World → Prop, R2 = fun w => R1 w ∧ w.heap[g3]? = some (.cells #[.slice B by_.length d] 22 (0, 0)) := ⟨_, rfl⟩
  have hst2 : Steady S2 R2 := by rw [hS2, hR2]; exact (hst1.mono fun k hk => .inl hk).and (Steady.heap (.inr rfl))
  have hS2w : ∀ k, S2 k → k < w3.heap.size ∧ k ≠ g6 ∧ k ≠ g7 ∧ k ≠ g4 := by
    rw [hS2]
    rintro k (h | rfl)
    · have := hlt1 k h
      exact ⟨by omega, by omega, by omega, by omega⟩
    · exact ⟨r3, ne63.symm, ne73.symm, ne43.symm⟩
  have hR23 : ∀ w, R2 w → w.heap[g3]? = some (.cells #[.slice B by_.length d] 22 (0, 0)) := fun w h => by rw [hR2] at h; exact h.2
  have hR2B : ∀ w, R2 w → RdRow w B by_.length 1 (elI by_) := fun w h => by rw [hR2, hR1] at h; exact h.1.2
  have f1I : Iter Try.prog (.func gf ga gb) rd RelR xs w3 := by rw [hR1] at f1; exact f1.1
  refine wpIn_block ?_
  refine wp_range (gv := .func gf ga gb) k11 f1I (fun k hk => by have := hrd k hk; omega) [g6, g7, g4] ?_ (keepB by_ S2 R2 g6 g7 g4 w.heap.size xs) (keepB_steady hst2) (fun k => (sb (.slice none 0 0) k ∨ S2 k) ∨ (k = g6 ∨ k = g7 ∨ k = g4)) ?_
    ⟨.slice none 0 0, fun _ => Iff.rfl, fun k hk => absurd hk.1 (Nat.lt_irrefl 0), by rw [hR2]; exact ⟨f1, p3⟩, p6, p7, p4, IntsAt.nil w3, fun y hy => by cases hy⟩ ?_ ?_
  · intro k hk
    have : k = g6 ∨ k = g7 ∨ k = g4 := by simpa using hk
    rcases this with rfl | rfl | rfl
    · exact ⟨r6, fun h => by have := hrd _ h; omega⟩
    · exact ⟨r7, fun h => by have := hrd _ h; omega⟩
    · exact ⟨r4, fun h => by have := hrd _ h; omega⟩
  · rintro k ((hk | hk) | rfl | rfl | rfl)
    · exact absurd hk.1 (Nat.lt_irrefl 0)
    · exact (hS2w k hk).1
    · exact r6
    · exact r7
    · exact r4
  · rintro l s x v Zk W1 hxm hl hsame hlt ⟨nv, e1, e2, e3, e4, e5, e6, e7, hsx⟩ hZ1 ⟨⟨xv, rfl, hxv⟩, hxlo⟩ hv
    obtain ⟨An, cn, rfl, hAn, hcn⟩ := e7
    obtain ⟨Ax, cx, rfl, hAx, hcx⟩ := hxv
    have hvx : ∀ k, sb (.slice Ax x.1.length cx) k → vbk (.agg #[.slice Ax x.1.length cx, I x.2]) k := fun k hk => ⟨_, by simp, hk⟩
    obtain ⟨hx1, hx2, hx3⟩ := hx x hxm
    have hcur : (bestM by_ s).isSome = true → (cur (bestM by_ s)).1.length = by_.length := fun h => (hx _ (by
      obtain ⟨y, hy⟩ := Option.isSome_iff_exists.1 h
      rw [show cur (bestM by_ s) = y from by rw [cur, hy]; rfl]
      exact bestM_mem by_ xs s hsx y hy)).1
    have hsA : Sat ⟨W1, borT 1000 [], 42, some l, []⟩ (ρT 1000 []) (St.of [(3, .v (.c (.k (Pt g3)))), (6, .v (.c (.k (Pt g6)))), (7, .v (.c (.k (Pt g7)))), (12, .v (.agg [.k (.slice Ax x.1.length cx), .k (I x.2)]))] []) { tmps := a3.tmps.setIfInBounds 12 (.agg #[.slice Ax x.1.length cx, I x.2]), defers := [] } W1 :=
      Sat.say0 (Nat.le_refl _) rfl (by rw [Array.size_setIfInBounds]; exact hsz3) ⟨by rw [getD_setNe (show (3 : Nat) ≠ 12 by decide), k3]; rfl, by rw [getD_setNe (show (6 : Nat) ≠ 12 by decide), k6]; rfl, by rw [getD_setNe (show (7 : Nat) ≠ 12 by decide), k7]; rfl, by rw [getD_setEq (by rw [hsz3]; show 12 < 42; decide)]; rfl, trivial⟩ trivial
    refine ⟨fun a₁ w₁ => ∃ ρ, Sat ⟨W1, borT 1000 [], 42, some l, []⟩ ρ (St.of [(3, .v (.c (.k (Pt g3)))), (6, .v (.c (.k (Pt g6)))), (7, .v (.c (.k (Pt g7)))), (8, .v (.c (.ptr 8 0 0 0)))] [(8, .var 29 [.k (.slice Ax x.1.length cx), .k (I x.2)])]) a₁ w₁, assign_wp rfl hsA rfl (G.reg tfine rfl trivial ⟨rfl, St.le_of rfl ⟨⟨_, rfl, Blk.le_refl _⟩, trivial⟩ ⟨rfl, rfl, rfl, rfl, trivial⟩⟩), ?_⟩
    rintro a₁ w₁ ⟨ρ', hs1'⟩
    have hfr1 : Fr W1 [] w₁ := hs1'.mem.fr
    refine ⟨hfr1, fun W3 hsm hsz3' hoth => ?_⟩
    have t3 := hs1'.tmK (j := 3) (v := Pt g3) rfl
    have t6 := hs1'.tmK (j := 6) (v := Pt g6) rfl
    have t7 := hs1'.tmK (j := 7) (v := Pt g7) rfl
    obtain ⟨t8, p8, q8, r8⟩ := hs1'.tmP (j := 8) (x := 8) (off := 0) rfl rfl
    obtain ⟨g8, hg8⟩ : ∃ g8, g8 = (ρ' 8).1 := ⟨_, rfl⟩
    rw [← hg8] at t8 p8 q8 r8
    have p8 : w₁.heap[g8]? = some (.cells #[.slice Ax x.1.length cx, I x.2] 29 (0, 0)) := p8
    have q8 : W1.heap.size ≤ g8 := q8.elim id (fun h => by cases h)
    clear hg8
    have hZ' : ∀ k, Zk k → k < W1.heap.size ∧ k ≠ l := hZ1
    have h13 : W1.heap.size ≤ W3.heap.size := by rw [hsz3']; exact hfr1.size
    have hmv : ∀ {S : Nat → Prop} {R : World → Prop}, Steady S R → (∀ k, S k → k < W1.heap.size ∧ k ≠ l) → R W1 → R W3 := fun hst hS hR => hst W1 W3 (fun k hk => (hoth k (hS k hk).2).trans (hfr1.block k (hS k hk).1 (by simp))) h13 hR
    have hS2' : ∀ k, S2 k → k < W1.heap.size ∧ k ≠ l := fun k hk => hZ1 k ((e1 k).2 (.inl (.inr hk)))
    have hnv' : ∀ k, sb (.slice An (cur (bestM by_ s)).1.length cn) k → k < W1.heap.size ∧ k ≠ l := fun k hk => hZ1 k ((e1 k).2 (.inl (.inl hk)))
    have hg6' := hZ1 g6 ((e1 g6).2 (.inr (.inl rfl)))
    have hg7' := hZ1 g7 ((e1 g7).2 (.inr (.inr (.inl rfl))))
    have hg4' := hZ1 g4 ((e1 g4).2 (.inr (.inr (.inr rfl))))
    have hv' : ∀ k, sb (.slice Ax x.1.length cx) k → (k < W1.heap.size ∧ k ≠ l) ∧ (k ≠ g6 ∧ k ≠ g7 ∧ k ≠ g4) := fun k hk => by
      have h := hv k (hvx k hk)
      have h2 := h.2.1
      simp only [List.mem_cons, List.not_mem_nil, or_false, not_or] at h2
      exact ⟨⟨h.1, h.2.2⟩, h2⟩
    have hh : ∀ {k : Nat} {o : Obj}, k < W1.heap.size ∧ k ≠ l → W1.heap[k]? = some o → W3.heap[k]? = some o := fun hk ho => (hoth _ hk.2).trans ((hfr1.block _ hk.1 (by simp)).trans ho)
    have h8l : g8 ≠ l := by omega
    have p8' : W3.heap[g8]? = some (.cells #[.slice Ax x.1.length cx, I x.2] 29 (0, 0)) := (hoth g8 h8l).trans p8
    have hg8W : g8 < W3.heap.size := lt_of_heap p8'
    have u1 : g6 ≠ g8 := by omega
    have u2 : g7 ≠ g8 := by omega
    have u3 : ∀ k, S2 k → k ≠ g6 ∧ k ≠ g7 ∧ k ≠ g8 := fun k hk => ⟨(hS2w k hk).2.1, (hS2w k hk).2.2.1, by have := (hS2' k hk).1; omega⟩
    have u4 : ∀ k, sb (.slice An (cur (bestM by_ s)).1.length cn) k → k ≠ g6 ∧ k ≠ g7 ∧ k ≠ g8 := fun k hk => ⟨(e2 k hk).2.1, (e2 k hk).2.2.1, by have := (hnv' k hk).1; omega⟩
    have u5 : ∀ k, sb (.slice Ax x.1.length cx) k → k ≠ g6 ∧ k ≠ g7 ∧ k ≠ g8 := fun k hk => ⟨(hv' k hk).2.1, (hv' k hk).2.2.1, by have := (hv' k hk).1; omega⟩
    have hsB : Sat ⟨W3, borT 1000 [g6, g7, g8], 42, some l, []⟩ (ρT 1000 [g6, g7, g8]) (St.of [(3, .v (.c (.k (Pt g3)))), (6, .v (.c (.k (Pt g6)))), (7, .v (.c (.k (Pt g7)))), (8, .v (.c (.k (Pt g8))))]
        [(1000, .var 29 [.k (.slice An (cur (bestM by_ s)).1.length cn), .k (I (cur (bestM by_ s)).2)]), (1001, .var 4 [.k (.bool (bestM by_ s).isSome)]), (1002, .var 29 [.k (.slice Ax x.1.length cx), .k (I x.2)]), (1, .say S2 R2), (4, .say (sb (.slice An (cur (bestM by_ s)).1.length cn)) (fun w => IntsAt w (.slice An (cur (bestM by_ s)).1.length cn) (cur (bestM by_ s)).1)), (5, .say (sb (.slice Ax x.1.length cx)) (fun w => IntsAt w (.slice Ax x.1.length cx) x.1))]) a₁ W3 := by
      refine Sat.say0 (Nat.le_refl _) hs1'.df hs1'.sz ⟨by rw [t3]; rfl, by rw [t6]; rfl, by rw [t7]; rfl, by rw [t8]; rfl, trivial⟩ ?_
      refine ⟨⟨.head _, [_, _], ⟨rfl, rfl, trivial⟩, hh hg6' e4⟩, ⟨fun _ => ?_, fun _ => ?_, fun _ => ?_, fun _ => ?_, fun _ h => (u3 _ h).1 rfl, fun h => h.elim, fun _ h => (u4 _ h).1 rfl, fun h => h.elim, fun _ h => (u5 _ h).1 rfl, fun h => h.elim, trivial⟩,
        ⟨.tail _ (.head _), [_], ⟨rfl, trivial⟩, hh hg7' e5⟩, ⟨fun _ => ?_, fun _ => ?_, fun _ h => (u3 _ h).2.1 rfl, fun h => h.elim, fun _ h => (u4 _ h).2.1 rfl, fun h => h.elim, fun _ h => (u5 _ h).2.1 rfl, fun h => h.elim, trivial⟩,
        ⟨.tail _ (.tail _ (.head _)), [_, _], ⟨rfl, rfl, trivial⟩, p8'⟩, ⟨fun _ h => (u3 _ h).2.2 rfl, fun h => h.elim, fun _ h => (u4 _ h).2.2 rfl, fun h => h.elim, fun _ h => (u5 _ h).2.2 rfl, fun h => h.elim, trivial⟩,
        ⟨hmv hst2 hS2' e3, fun k hk => Nat.lt_of_lt_of_le (hS2' k hk).1 h13, hst2⟩, ⟨fun h => h.elim, fun h => h.elim, fun h => h.elim, fun h => h.elim, trivial⟩,
        ⟨hmv steady_ints hnv' ⟨An, cn, rfl, hAn, hcn⟩, fun k hk => Nat.lt_of_lt_of_le (hnv' k hk).1 h13, steady_ints⟩, ⟨fun h => h.elim, fun h => h.elim, trivial⟩,
        ⟨hmv steady_ints (fun k hk => (hv' k hk).1) ⟨Ax, cx, rfl, hAx, hcx⟩, fun k hk => Nat.lt_of_lt_of_le (hv' k hk).1.1 h13, steady_ints⟩, trivial, trivial⟩
      · exact ne76.symm
      · exact ne76
      · exact u1
      · exact u1.symm
      · exact u2
      · exact u2.symm
    have hsC := ((hsB.toPtr (d := 6) (g := g6) 1000 rfl (.head _) rfl).toPtr (d := 7) (g := g7) 1001 rfl (.tail _ (.head _)) rfl).toPtr (d := 8) (g := g8) 1002 rfl (.tail _ (.tail _ (.head _))) rfl
    refine body_wp rfl hsC rfl (G.weaken ?_ (best_round by_ B An Ax d cn cx g3 l g6 g7 g8 W3 (bestM by_ s) x S2 R2 hR23 hR2B hx1 hcur hn hx2 hx3 hcn hcx)) ?_
    · exact St.le_of rfl ⟨⟨_, rfl, Blk.le_refl _⟩, ⟨_, rfl, Blk.le_refl _⟩, ⟨_, rfl, Blk.le_refl _⟩, ⟨_, rfl, Blk.le_refl _⟩, ⟨_, rfl, Blk.le_refl _⟩, ⟨_, rfl, Blk.le_refl _⟩, trivial⟩ ⟨rfl, rfl, rfl, rfl, trivial⟩
    rintro e ρ st a w' hs ⟨rfl, m0, m1, m2, m3, m4, m5⟩
    have hbo := hs.mem.bo
    have z0 := (hbo (1000, g6) (.head _)).1
    have z1 := (hbo (1001, g7) (.tail _ (.head _))).1
    have z2 := (hbo (1002, g8) (.tail _ (.tail _ (.head _)))).1
    have v0 := (hs.mem.ok 1000 _ m0).2.2.1
    have v1 := (hs.mem.ok 1001 _ m1).2.2.1
    have v2 := (hs.mem.ok 1002 _ m2).2.2.1
    simp only [z0, z1, z2] at v0 v1 v2
    have hfr3 := hs.mem.fr
    simp only [borT_snd] at hfr3
    refine ⟨rfl, ⟨hfr3.os, hfr3.tape, hfr3.output, hfr3.size, fun k hk hn => ?_⟩, ?_⟩
    · by_cases e : k = g8
      · subst e
        exact v2.trans p8'.symm
      · refine hfr3.block k hk fun h => ?_
        have h : k = g6 ∨ k = g7 ∨ k = g8 := by simpa using h
        simp only [List.mem_cons, List.not_mem_nil, or_false, not_or] at hn
        omega
    have i4 : w'.heap[g4]? = some (.cells #[.slice none 0 0, I 0] 29 (0, 0)) := (hfr3.block g4 (by omega) (by simp; omega)).trans (hh hg4' e6)
    have s1 := hs.mem.ok 1 _ m3
    have s4 := hs.mem.ok 4 _ m4
    have s5 := hs.mem.ok 5 _ m5
    have hw1 : W1.heap.size ≤ w'.heap.size := by have := hfr3.size; omega
    obtain ⟨tk, htk⟩ : ∃ tk, tk = takes by_ (bestM by_ s) x := ⟨_, rfl⟩
    have hbs : bestM by_ (s ++ [x]) = if tk = true then some x else bestM by_ s := by rw [bestM_snoc, bstep, ← htk]
    rw [← htk] at v0 v1
    have hsx' : ∀ y ∈ s ++ [x], y ∈ xs := fun y hy => by
      rcases List.mem_append.1 hy with h | h
      · exact hsx y h
      · rw [List.mem_singleton.1 h]; exact hxm
    have hgl : ∀ k, k = g6 ∨ k = g7 ∨ k = g4 → Zk k ∧ k < w'.heap.size := by
      rintro k (rfl | rfl | rfl)
      · exact ⟨(e1 _).2 (.inr (.inl rfl)), by omega⟩
      · exact ⟨(e1 _).2 (.inr (.inr (.inl rfl))), by omega⟩
      · exact ⟨(e1 _).2 (.inr (.inr (.inr rfl))), by omega⟩
    unfold keepB
    rw [hbs]
    cases tk with
    | true =>
      refine ⟨_, ⟨.slice Ax x.1.length cx, fun _ => Iff.rfl, fun k hk => ⟨by have := hxlo k (hvx k hk); omega, (hv' k hk).2⟩, s1.1, v0, v1, i4, s5.1, hsx'⟩, ?_⟩
      rintro k ((hk | hk) | hk)
      · exact ⟨.inr (.inl (hvx k hk)), s5.2.1 k hk⟩
      · exact ⟨.inl ((e1 k).2 (.inl (.inr hk))), s1.2.1 k hk⟩
      · exact ⟨.inl (hgl k hk).1, (hgl k hk).2⟩
    | false =>
      refine ⟨_, ⟨.slice An (cur (bestM by_ s)).1.length cn, fun _ => Iff.rfl, e2, s1.1, v0, v1, i4, s4.1, hsx'⟩, ?_⟩
      rintro k ((hk | hk) | hk)
      · exact ⟨.inl ((e1 k).2 (.inl (.inl hk))), s4.2.1 k hk⟩
      · exact ⟨.inl ((e1 k).2 (.inl (.inr hk))), s1.2.1 k hk⟩
      · exact ⟨.inl (hgl k hk).1, (hgl k hk).2⟩
  · rintro Zf W4 hfr ⟨nv, e1, e2, e3, e4, e5, e6, e7, hsx⟩ hZf hK
    obtain ⟨An, cn, rfl, hAn, hcn⟩ := e7
    obtain ⟨D, hD⟩ : ∃ D, D = w3.heap.size := ⟨_, rfl⟩
    rw [← hD] at hK ⊢
    have hD4 : D < W4.heap.size := lt_of_heap hK
    have d4 : g4 ≠ D := by have := (hZf g4 ((e1 g4).2 (.inr (.inr (.inr rfl))))).2; omega
    have d6 : g6 ≠ D := by have := (hZf g6 ((e1 g6).2 (.inr (.inl rfl)))).2; omega
    have d7 : g7 ≠ D := by have := (hZf g7 ((e1 g7).2 (.inr (.inr (.inl rfl))))).2; omega
    have hnvD : ∀ k, sb (.slice An (cur (bestM by_ xs)).1.length cn) k → k < W4.heap.size ∧ k ≠ D := fun k hk => by have := hZf k ((e1 k).2 (.inl (.inl hk))); omega
    have hsE : Sat ⟨W4, borT 1000 [g4, g6, g7, D], 42, none, [{ target := .collected D, args := #[] }]⟩ (ρT 1000 [g4, g6, g7, D]) (St.of [(4, .v (.c (.k (Pt g4)))), (6, .v (.c (.k (Pt g6)))), (7, .v (.c (.k (Pt g7))))]
        [(1000, .var 29 [.k (.slice none 0 0), .k (I 0)]), (1001, .var 29 [.k (.slice An (cur (bestM by_ xs)).1.length cn), .k (I (cur (bestM by_ xs)).2)]), (1002, .var 4 [.k (.bool (bestM by_ xs).isSome)]), (9, .say (· = D) (fun w => w.heap[D]? = some (.deferred (some []))))]) { a3 with defers := { target := .collected D, args := #[] } :: a3.defers } W4 := by
      refine Sat.say0 (Nat.le_refl _) (by rw [hdf]) hsz3 ⟨by rw [k4]; rfl, by rw [k6]; rfl, by rw [k7]; rfl, trivial⟩ ?_
      refine ⟨⟨.head _, [_, _], ⟨rfl, rfl, trivial⟩, e6⟩, ⟨fun _ => ?_, fun _ => ?_, fun _ => ?_, fun _ => ?_, fun _ => d4, fun h => h.elim, trivial⟩,
        ⟨.tail _ (.head _), [_, _], ⟨rfl, rfl, trivial⟩, e4⟩, ⟨fun _ => ?_, fun _ => ?_, fun _ => d6, fun h => h.elim, trivial⟩,
        ⟨.tail _ (.tail _ (.head _)), [_], ⟨rfl, trivial⟩, e5⟩, ⟨fun _ => d7, fun h => h.elim, trivial⟩,
        ⟨hK, (fun k hk => by rw [hk]; exact hD4), Steady.heap rfl⟩, trivial, trivial⟩
      · exact ne64.symm
      · exact ne64
      · exact ne74.symm
      · exact ne74
      · exact ne76.symm
      · exact ne76
    have hsF := ((hsE.toPtr (d := 4) (g := g4) 1000 rfl (.head _) rfl).toPtr (d := 6) (g := g6) 1001 rfl (.tail _ (.head _)) rfl).toPtr (d := 7) (g := g7) 1002 rfl (.tail _ (.tail _ (.head _))) rfl
    refine raw_wp rfl hsF (K := fun e st => e = .ret ∧ St.le ⟨W4, borT 1000 [g4, g6, g7, D], 42, none, [{ target := .collected D, args := #[] }]⟩ (St.of [(4, .v (.c (.ptr 1000 0 0 0))), (5, .v (.c (.k (.bool (bestM by_ xs).isSome))))] [(1000, .var 29 [.k (.slice An (cur (bestM by_ xs)).1.length cn), .k (I (cur (bestM by_ xs)).2)]), (9, .say (· = D) (fun w => w.heap[D]? = some (.deferred (some []))))]) st) ?_ ?_
    · refine G.seqD tfine hmix [0, 0, 1, 7] [(2, 1000)] rfl rfl rfl rfl trivial ?_
      exact G.ret ⟨rfl, St.le_of rfl ⟨⟨_, rfl, Blk.le_refl _⟩, ⟨_, rfl, Blk.le_refl _⟩, trivial⟩ ⟨rfl, rfl, trivial⟩⟩
    · rintro e ρ st a w' hs ⟨rfl, hle⟩
      have hs' := hle _ _ _ hs
      have hs2 := hs'.shutD 9 (.deferred none) (D := D) (.inr (by simp [borT])) rfl (fun z b hz hb => by
        rcases lkM_mem (ml := [(1000, .var 29 [.k (.slice An (cur (bestM by_ xs)).1.length cn), .k (I (cur (bestM by_ xs)).2)]), (9, .say (· = D) (fun w => w.heap[D]? = some (.deferred (some []))))]) (j := z) with h | ⟨q, hq, rfl, h2⟩
        · have hb : lkM _ z = some b := hb
          rw [h] at hb; cases hb
        · simp at hq
          rcases hq with rfl | rfl
          · have hb : lkM _ 1000 = some b := hb
            have h2 : lkM _ 1000 = _ := h2
            rw [h2] at hb; cases hb; trivial
          · exact absurd rfl hz)
      have hfr4 := hs'.mem.fr
      simp only [borT_snd] at hfr4
      refine marks_end (.inl rfl) hs'.df (hs'.mem.ok 9 _ rfl).1 (results_run tfine hs2 rfl) ⟨.slice An (cur (bestM by_ xs)).1.length cn, rfl, ?_, ?_, ?_⟩
      · refine Fr.toBelow (((hfrW.trans' hfr (fun k hk h => ?_)).trans' hfr4 (fun k hk h => ?_)).putObj (.inl (by omega)) _)
        · have h : k = g6 ∨ k = g7 ∨ k = g4 := by simpa using h
          omega
        · have h : k = g4 ∨ k = g6 ∨ k = g7 ∨ k = D := by simpa using h
          omega
      · refine steady_ints W4 _ (fun k hk => ?_) (by rw [World.putObj_size]; exact hfr4.size) ⟨An, cn, rfl, hAn, hcn⟩
        have h5 := hnvD k hk
        have h6 := e2 k hk
        exact (World.putObj_heap_other h5.2).trans (hfr4.block k h5.1 (by simp; omega))
      · intro k hk
        have := hnvD k hk
        have := (e2 k hk).1
        rw [World.putObj_size]
        have := hfr4.size
        omega
end Go.Proofs.Ytafhnfcahhlanaa
/- Chapter 27: a round of the rays. -/
set_option linter.unusedVariables false
set_option linter.unusedSimpArgs false
set_option maxRecDepth 8000
set_option maxHeartbeats 2000000
namespace Go.Proofs.Ytafhnfcahhlanaa
open Go.Sx Go.RowKit
noncomputable def body81 : Code := bodyR (Try.f81.body.getD .skip)
def rowsR (L : List Cond) (set : List Int) : List (List Int) := set.map fun i => (cAt L i.toNat).1
def rayX (rows : List (List Int)) (n k : Nat) : Int := if k % 2 = 1 then W (0 - detC rows ((placesL n).eraseIdx k)) else detC rows ((placesL n).eraseIdx k)
def rayL (rows : List (List Int)) (n : Nat) : List Int := (List.range n).map (rayX rows n)
def negW (l : List Int) : List Int := l.map fun x => W (0 - x)
def max1 (g : Int) : Int := if 1 > g then 1 else g
def divX (g : Int) (l : List Int) : List Int := l.map fun x => W (x.tdiv (max1 g))
def ray0 (L : List Cond) (n : Nat) (set : List Int) : List Int := divX (divM (rayL (rowsR L set) n)) (rayL (rowsR L set) n)
def ray1 (L : List Cond) (n : Nat) (set : List Int) : List Int := divX (divM (rayL (rowsR L set) n)) (negW (rayL (rowsR L set) n))
def rayOk (L : List Cond) (n : Nat) (set r : List Int) : Bool := decide ((divM (rayL (rowsR L set) n) : Int) > 0) && keepsM L r 1
def raysOf (L : List Cond) (n : Nat) (set : List Int) : List (List Int) := (bif rayOk L n set (ray0 L n set) then [ray0 L n set] else []) ++ (bif rayOk L n set (ray1 L n set) then [ray1 L n set] else [])
def raysM (L : List Cond) (n : Nat) : List (List Int) := (chooseM L.length (n - 1)).flatMap (raysOf L n)
theorem rowsR_len (L : List Cond) (set : List Int) : (rowsR L set).length = set.length := by simp [rowsR]
theorem rowsR_get (L : List Cond) (set : List Int) (i : Nat) (h : i < set.length) : (rowsR L set).getD i [] = (cAt L (set.getD i 0).toNat).1 := by
  simp [rowsR, List.getD_eq_getElem?_getD, List.getElem?_eq_getElem h]
theorem rowsR_rows (L : List Cond) (n : Nat) (set : List Int) (hrow : ∀ c ∈ L, c.1.length = n) (hset : ∀ x ∈ set, 0 ≤ x ∧ x < L.length) : ∀ r ∈ rowsR L set, r.length = n := by
  intro r hr
  obtain ⟨x, hx, rfl⟩ := List.mem_map.1 hr
  have := hset x hx
  exact hrow _ (cAt_mem (L := L) (i := x.toNat) (by omega))
theorem placesO_any (n : Nat) (w : World) (h0 : 0 < n) (hn : n ≤ 1000000) : Calls Try.prog 77 #[I n] w fun e w' => OwnNew w w' e 3 n 1 (elI (placesL n)) ∧ Below w.heap.size w w' :=
  (placesC_any n w h0 hn).mono fun e w' ⟨⟨b, c, h1, h2, h3, cs, h4, h5, h6⟩, hb⟩ => ⟨⟨b, c, h1, h2, h3, cs, h4, by omega, h6⟩, hb⟩
theorem rayL_len (rows : List (List Int)) (n : Nat) : (rayL rows n).length = n := by simp [rayL]
theorem negW_len (l : List Int) : (negW l).length = l.length := by simp [negW]
theorem divX_len (g : Int) (l : List Int) : (divX g l).length = l.length := by simp [divX]
theorem take_snoc (l : List Int) (k : Nat) (v : Int) (h : k < l.length) (hv : l.getD k 0 = v) : ∀ j, j < k + 1 → elI (l.take (k + 1)) j = elN (elI (l.take k)) k [I v] j := fun j hj => by
  have hl : (l.take k).length = k := by rw [List.length_take]; omega
  have e : l.take (k + 1) = l.take k ++ [v] := by
    rw [List.take_succ_eq_append_getElem h]
    congr 2
    rw [← hv, List.getD_eq_getElem?_getD, List.getElem?_eq_getElem h]; rfl
  have := elI_snoc (l.take k) v j (by rw [hl]; exact hj)
  rw [hl] at this
  rw [e, this]
theorem rayL_get (rows : List (List Int)) (n k : Nat) (h : k < n) : (rayL rows n).getD k 0 = rayX rows n k := by
  simp [rayL, List.getD_eq_getElem?_getD, List.getElem?_map, List.getElem?_range h]
theorem negW_get (l : List Int) (k : Nat) (h : k < l.length) : (negW l).getD k 0 = W (0 - l.getD k 0) := by
  simp [negW, List.getD_eq_getElem?_getD, List.getElem?_map, List.getElem?_eq_getElem h]
theorem divX_get (g : Int) (l : List Int) (k : Nat) (h : k < l.length) : (divX g l).getD k 0 = W ((l.getD k 0).tdiv (max1 g)) := by
  simp [divX, List.getD_eq_getElem?_getD, List.getElem?_map, List.getElem?_eq_getElem h]
/-- A row of which the first k elements are divided. -/
def mixE (l m : List Int) (k j : Nat) : List Value := [I (if j < k then m.getD j 0 else l.getD j 0)]
theorem max1_ne (g : Int) : max1 g ≠ 0 := by unfold max1; split <;> omega
theorem mixE_step (l : List Int) (g : Int) (j q : Nat) (hj : j < l.length) : mixE l (divX g l) (j + 1) q = bif Nat.beq q (0 + (j : Int).toNat) then [Value.int .i64 (IntKind.i64.wrap ((if 0 + (j : Int).toNat < j then (divX g l).getD (0 + (j : Int).toNat) 0 else l.getD (0 + (j : Int).toNat) 0).tdiv (if 1 > g then 1 else g)))] else mixE l (divX g l) j q := by
  rw [Int.toNat_natCast, Nat.zero_add, if_neg (Nat.lt_irrefl j)]
  by_cases e : q = j
  · subst e
    rw [Nat.beq_refl, cond_true, mixE, if_pos (Nat.lt_succ_self q), divX_get g l q hj]
    rfl
  · rw [nbeq e, cond_false]
    unfold mixE
    by_cases h : q < j
    · rw [if_pos h, if_pos (by omega)]
    · rw [if_neg h, if_neg (by omega)]
theorem mixE_all (l r : List Int) (n q : Nat) (h : q < n) : mixE l r n q = elI r q := by rw [mixE, if_pos h]; rfl
theorem ray_round (L : List Cond) (AL A5 : Option Addr) (cL c5 : Nat) (vs : Nat → Value) (m b1 b2 g3 l0 l lo : Nat) (W2 : World) (T : List Nat) (J : List (List Int) → (Nat → Prop) → World → Prop) (s : List (List Int)) (Z S2 : Nat → Prop) (R2 : World → Prop) (set : List Int)
    (hb1 : ∀ w, R2 w → w.heap[b1]? = some (.cells #[.slice AL L.length cL] 59 (0, 0))) (hb2 : ∀ w, R2 w → w.heap[b2]? = some (.cells #[I ((m + 1 : Nat) : Int)] 3 (0, 0))) (hg3 : ∀ w, R2 w → w.heap[g3]? = some (.cells #[.func (.yield l0) #[] #[]] 67 (0, 0)))
    (hcon : ∀ w, R2 w → ConsAt w (.slice AL L.length cL) L vs) (hvs : ∀ i, i < L.length → ∃ A c, vs i = .slice A (cAt L i).1.length c) (hSL : ∀ k, sb (.slice AL L.length cL) k → S2 k) (hTs : ∀ k ∈ T, ¬ S2 k) (hT5 : ∀ k ∈ T, ¬ sb (.slice A5 set.length c5) k) (hTW : ∀ k ∈ T, k < W2.heap.size)
    (hRd : Rounds Try.prog l0 T (RelL lo) (raysM L (m + 1)) J W2) (hlo : lo ≤ W2.heap.size) (hL : L.length ≤ 8) (hn : m + 1 ≤ 8) (hrow : ∀ c ∈ L, c.1.length = m + 1) (hlen : set.length = m) (hin : ∀ x ∈ set, 0 ≤ x ∧ x < L.length) (hmem : set ∈ chooseM L.length m) :
    G Try.prog ⟨W2, borT 1000 T, 102, some l, []⟩ (roundK W2 S2 R2 J (s ++ raysOf L (m + 1) set) Z) body81
      (St.of [(1, .v (.c (.k (Pt b1)))), (2, .v (.c (.k (Pt b2)))), (3, .v (.c (.k (Pt g3)))), (4, .v (.c (.k (.slice A5 set.length c5))))] [(1, .say S2 R2), (2, .say Z (J s Z)), (5, .say (sb (.slice A5 set.length c5)) (fun w => IntsAt w (.slice A5 set.length c5) set))]) := by
  refine G.block (id := 1) ?_
  refine G.seqR tfine rfl trivial ?_
  refine G.seq ?_
  refine G.seqR tfine rfl trivial ?_
  refine G.openSay (el := elI set) (sz := 1) 5 702 21 rfl (fun w h => by obtain ⟨A', c', e, h1, _⟩ := h; cases e; exact h1) (fun k hk => hk) rfl rfl rfl ?_
  obtain ⟨us, hus⟩ : ∃ us : Nat → Value, us = fun j => vs (set.getD j 0).toNat := ⟨_, rfl⟩
  refine G.newNil 34 1 (fun j => [us j]) rfl ?_
  refine G.block (G.loop (fun z : Nat × Nat => St.of [(1, .v (.c (.k (Pt b1)))), (2, .v (.c (.k (Pt b2)))), (3, .v (.c (.k (Pt g3)))), (5, .v (.c (accV 34 1 z.1 z.2))), (21, .v (.c (.inp 702 A5 set.length c5))), (22, .v (.c (.k (I set.length)))), (23, .v (.c (.k (I z.1))))]
      [(1, .say S2 R2), (2, .say Z (J s Z)), (702, .ro 1 set.length (elI set)), (34, accB 22 1 z.1 z.2 (fun j => [us j]))])
    (fun z => z.1 ≤ set.length ∧ z.1 ≤ z.2) (fun z => set.length - z.1) (0, 0) ⟨Nat.zero_le _, Nat.le_refl _⟩ (St.le_of rfl ⟨⟨_, rfl, Blk.le_refl _⟩, ⟨_, rfl, Blk.le_refl _⟩, ⟨_, rfl, Blk.le_refl _⟩, ⟨_, rfl, Blk.le_refl _⟩, trivial⟩ ⟨rfl, rfl, rfl, rfl, rfl, rfl, rfl, trivial⟩) ?_)
  rintro ⟨i, cp⟩ ⟨hi, hcp⟩
  simp only at hi hcp
  refine G.seqR tfine rfl trivial ?_
  refine G.seq ?_
  refine G.cond (b := decide ((i : Int) < (set.length : Int))) rfl (fun h2 => ?_) (fun h2 => ?_)
  · have h2 := of_decide_eq_true h2
    have hlt : i < set.length := by omega
    refine G.skip ?_
    refine G.seq ?_
    refine G.block ?_
    refine G.seqR tfine rfl ⟨by omega, by omega, by omega, trivial⟩ ?_
    rw [Int.toNat_natCast]
    obtain ⟨x, hx⟩ : ∃ x, x = set.getD i 0 := ⟨_, rfl⟩
    have hxm : x ∈ set := by rw [hx, List.getD_eq_getElem?_getD, List.getElem?_eq_getElem hlt]; exact List.getElem_mem hlt
    obtain ⟨q, hq⟩ : ∃ q : Nat, x = (q : Int) := ⟨x.toNat, by have := hin x hxm; omega⟩
    have hql : q < L.length := by have := hin x hxm; omega
    have husi : us i = vs q := by rw [hus]; simp only; rw [← hx, hq]; rfl
    rw [← hx, hq]
    refine G.region_lit ?_
    refine GO.moveAny tfine rfl (.inl rfl) rfl rfl rfl ?_
    refine GO.steps (Steps.loadOpen tfine 1 721 AL L.length cL 2 (elC L vs) rfl rfl rfl rfl rfl rfl hb1 rfl rfl rfl (fun w h => by obtain ⟨A', c', e, h1, _⟩ := hcon w h; cases e; exact h1) hSL rfl rfl) ?_
    obtain ⟨Aq, cq, hvq⟩ := hvs q hql
    refine GO.firstN tfine 4 rfl ⟨by omega, by omega, by omega, trivial⟩ ?_
    rw [Int.toNat_natCast]
    refine GO.weaken (st' := St.of [(1, .v (.c (.k (Pt b1)))), (2, .v (.c (.k (Pt b2)))), (3, .v (.c (.k (Pt g3)))), (21, .v (.c (.inp 702 A5 set.length c5))), (22, .v (.c (.k (I set.length)))), (23, .v (.c (.k (I i)))), (27, .v (.c (accV 34 1 i cp))), (32, .v (.c (.k (.slice Aq (cAt L q).1.length cq))))] [(1, .say S2 R2), (2, .say Z (J s Z)), (702, .ro 1 set.length (elI set)), (34, accB 22 1 i cp (fun j => [us j]))]) (St.le_of (by cases i <;> rfl) ⟨⟨_, rfl, Blk.le_refl _⟩, ⟨_, rfl, Blk.le_refl _⟩, ⟨_, rfl, Blk.le_refl _⟩, ⟨_, rfl, Blk.le_refl _⟩, trivial⟩ ⟨rfl, rfl, rfl, rfl, rfl, rfl, rfl, by rw [← hvq]; rfl, trivial⟩) ?_
    refine GO.more tfine rfl trivial ?_
    refine GO.appendAccB (n := i) (c := cp) (el := fun j => [us j]) [.slice Aq (cAt L q).1.length cq] [(1, .v (.c (.k (Pt b1)))), (2, .v (.c (.k (Pt b2)))), (3, .v (.c (.k (Pt g3)))), (21, .v (.c (.inp 702 A5 set.length c5))), (22, .v (.c (.k (I set.length)))), (23, .v (.c (.k (I i))))] [(1, .say S2 R2), (2, .say Z (J s Z)), (702, .ro 1 set.length (elI set))] apLL rfl rfl rfl rfl rfl rfl rfl rfl rfl rfl (fun u hu => by simp at hu; subst hu; rfl)
      (St.le_of rfl ⟨⟨_, rfl, Blk.le_refl _⟩, ⟨_, rfl, Blk.le_refl _⟩, ⟨_, rfl, Blk.le_refl _⟩, trivial⟩ ⟨rfl, rfl, rfl, rfl, rfl, rfl, trivial⟩) (subM.fr ⟨rfl, nx rfl, rfl, nx rfl, rfl, nx rfl, trivial⟩) (fun k hk => rfl) (by unfold maxLen; omega) (by omega) fun c' hc' => ?_
    refine GO.fin tfine rfl trivial ?_
    refine G.reg tfine rfl trivial ?_
    rw [IntWalk.i64_in ((i : Int) + 1) (by omega)]
    refine ⟨(i + 1, c'), ⟨by simp only; omega, hc'⟩, (by show set.length - (i + 1) < set.length - i; omega), ?_⟩
    exact St.le_of rfl ⟨⟨_, rfl, Blk.le_refl _⟩, ⟨_, rfl, Blk.le_refl _⟩, ⟨_, rfl, Blk.le_refl _⟩, ⟨_, rfl, rfl, rfl, Nat.le_refl _, (fun j hj => by
      have hj : j < i + 1 := hj
      show [us j] = elN (fun j => [us j]) i [_] j
      by_cases e : j = i
      · subst e; rw [elN_eq, husi, hvq]
      · rw [elN_lt (by omega)]), Nat.le_refl _⟩, trivial⟩ ⟨rfl, rfl, rfl, rfl, rfl, rfl, by simp [up, I], trivial⟩
  have h2 := of_decide_eq_false h2
  have : i = set.length := by omega
  subst this
  refine G.exit ?_
  refine G.freezeAcc (n := set.length) (c := cp) 34 5 rfl rfl fun A hA => ?_
  obtain ⟨rc, hrc⟩ : ∃ rc, rc = accC set.length cp := ⟨_, rfl⟩
  have hrcl : set.length ≤ rc := by rw [hrc]; exact accC_le hcp
  rw [← hrc]
  clear hrc hi h2
  have hrr := rowsR_rows L (m + 1) set hrow hin
  have hus2 : ∀ w, R2 w → ∀ j, j < set.length → IntsAt w (us j) ((rowsR L set).getD j []) := fun w hw j hj => by
    rw [rowsR_get L set j hj, hus]
    have hjm : set.getD j 0 ∈ set := by rw [List.getD_eq_getElem?_getD, List.getElem?_eq_getElem hj]; exact List.getElem_mem hj
    have := hin _ hjm
    obtain ⟨_, _, _, _, _, h⟩ := hcon w hw
    exact h _ (by omega)
  refine G.seq (G.region_lit ?_)
  refine GO.steps (Steps.allocVar (t := 100) (x := 8) (sz := 1) tfine rfl rfl rfl rfl rfl rfl rfl) ?_
  refine GO.nil ?_
  refine G.seq ?_
  refine G.seqC tfine rfl trivial ?_
  refine GO.steps (Steps.loadK tfine 1 [I ((m + 1 : Nat) : Int)] rfl rfl rfl rfl rfl hb2 rfl rfl) ?_
  refine GO.fin tfine rfl trivial ?_
  refine G.newNil 833 1 (elI []) rfl ?_
  refine G.newNil 834 1 (elI []) rfl ?_
  obtain ⟨R, hR⟩ : ∃ R, R = rayL (rowsR L set) (m + 1) := ⟨_, rfl⟩
  have hRl : R.length = m + 1 := by rw [hR]; exact rayL_len _ _
  refine G.block (G.loop (fun z : Nat × Nat × Nat => St.of [(1, .v (.c (.k (Pt b1)))), (2, .v (.c (.k (Pt b2)))), (3, .v (.c (.k (Pt g3)))), (5, .v (.c (.k (.slice A set.length rc)))), (8, .v (.c (.ptr 8 0 1 0))), (36, .v (.c (.k (I ((m + 1 : Nat) : Int))))), (37, .v (.c (.k (I z.1))))]
      [(1, .say S2 R2), (2, .say Z (J s Z)), (34, .say (sb (.slice A set.length rc)) (fun w => RdRow w A set.length 1 (fun j => [us j]))), (8, .var 100 [accV 833 1 z.1 z.2.1, accV 834 1 z.1 z.2.2]), (833, accB 3 1 z.1 z.2.1 (elI (R.take z.1))), (834, accB 3 1 z.1 z.2.2 (elI ((negW R).take z.1)))])
    (fun z => z.1 ≤ m + 1 ∧ z.1 ≤ z.2.1 ∧ z.1 ≤ z.2.2) (fun z => m + 1 - z.1) (0, 0, 0) ⟨Nat.zero_le _, Nat.le_refl _, Nat.le_refl _⟩ (St.le_of rfl ⟨⟨_, rfl, Blk.le_refl _⟩, ⟨_, rfl, Blk.le_refl _⟩, ⟨_, rfl, Blk.le_refl _⟩, ⟨_, rfl, Blk.le_refl _⟩, ⟨_, rfl, Blk.le_refl _⟩, ⟨_, rfl, Blk.le_refl _⟩, trivial⟩ ⟨rfl, rfl, rfl, rfl, rfl, rfl, rfl, trivial⟩) ?_)
  rintro ⟨k, kp, kq⟩ ⟨hk, hkp, hkq⟩
  simp only at hk hkp hkq
  refine G.seqR tfine rfl trivial ?_
  refine G.seq ?_
  refine G.cond (b := decide ((k : Int) < ((m + 1 : Nat) : Int))) rfl (fun h4 => ?_) (fun h4 => ?_)
  · have h4 := of_decide_eq_true h4
    have hkn : k < m + 1 := by omega
    refine G.skip ?_
    refine G.seq ?_
    refine G.block ?_
    refine G.seqR tfine rfl trivial ?_
    refine G.seqC tfine rfl trivial ?_
    refine GO.steps (Steps.loadK tfine 1 [I ((m + 1 : Nat) : Int)] rfl rfl rfl rfl rfl hb2 rfl rfl) ?_
    refine GO.steps (Steps.callOwnR 705 3 (m + 1) 1 (elI (placesL (m + 1))) rfl rfl rfl rfl rfl rfl rfl (fun args w => Try.call77 args w) (fun m' hle ρ w hs hok => placesO_any (m + 1) w (by omega) (by omega))) ?_
    refine GO.more tfine rfl trivial ?_
    rw [IntWalk.i64_in ((k : Int) + 1) (by omega)]
    refine GO.callTurnR 705 3 (m + 1) m 1 W2.heap.size (elI (placesL (m + 1))) (delF (elI (placesL (m + 1))) k) rfl rfl rfl rfl rfl List.mem_cons_self (Nat.le_succ _) (fun args w => Try.call82 args w) (fun m1 hle ρ w1 hs hok => ?_) ?_
    · have o := hok _ List.mem_cons_self
      have e := hs.rowAd (hle.at rfl) o (by omega)
      have := deleteIs_any (ρ 705).1 (m + 1) (ρ 755).1 k (elI (placesL (m + 1))) w1 (hs.ownA (hle.at rfl)) hkn o.2.2.2 (fun q hq u hu => by simp [elI] at hu; subst hu; rfl) (by omega)
      have e2 : (List.map (AV.conc ρ) [AV.c (.row 705 (m + 1) W2.heap.size), AV.c (.k (I k)), AV.c (.k (I ((k : Int) + 1)))] ++ List.map (Cap.conc ρ) []).toArray = #[.slice (some ⟨(ρ 705).1, 0, none⟩) (m + 1) (ρ 755).1, I k, I ((k : Int) + 1)] := by
        simp [AV.conc, AC.conc, e]
      have e3 : AC.conc ρ (.row 705 m W2.heap.size) = .slice (some ⟨(ρ 705).1, 0, none⟩) m (ρ 755).1 := by
        simp [AC.conc, e]
      rw [← e2] at this
      rw [e3]
      exact this
    obtain ⟨cols, hcols⟩ : ∃ cols, cols = (placesL (m + 1)).eraseIdx k := ⟨_, rfl⟩
    have hcl : cols.length = m := by rw [hcols, List.length_eraseIdx, if_pos (by rw [placesL_len]; exact hkn), placesL_len]; omega
    have hcin : ∀ c ∈ cols, 0 ≤ c ∧ c < ((m + 1 : Nat) : Int) := fun c hc => by rw [hcols] at hc; exact mem_placesL (List.mem_of_mem_eraseIdx hc)
    obtain ⟨dt, hdt⟩ : ∃ dt, dt = detC (rowsR L set) cols := ⟨_, rfl⟩
    refine GO.callPlain (v := I dt) rfl rfl rfl rfl (fun args w => Try.call76 args w) (fun ρ w hs hok => ?_) ?_
    · have hrd := hs.rowA (n := m) rfl (hok _ (List.mem_cons_of_mem _ List.mem_cons_self)) (Nat.le_refl _)
      have := det_any (rowsR L set) cols (.slice A set.length rc) us (rowAd ρ 705) (ρ 755).1 w ⟨A, rc, by rw [rowsR_len], by rw [rowsR_len]; exact (hs.ok 34 _ rfl).1, fun _ => by rw [rowsR_len]; exact hrcl, fun i hi => hus2 w (hs.ok 1 _ rfl).1 i (by rw [rowsR_len] at hi; exact hi)⟩
        (by rw [hcl]; exact hrd.congr fun i hi => by rw [hcols]; exact elI_erase (placesL (m + 1)) k i (by rw [placesL_len]; omega) (by rw [placesL_len]; exact hkn)) (by rw [hcl, rowsR_len]; omega) (by rw [rowsR_len]; omega) (fun c hc => ⟨(hcin c hc).1, fun r hr' => by have := hrr r hr'; have := (hcin c hc).2; omega⟩) (fun r hr' => by have := hrr r hr'; omega)
      rw [hcl] at this
      rw [hdt]
      exact this
    refine GO.fin tfine rfl trivial ?_
    refine G.weaken (st' := St.of [(1, .v (.c (.k (Pt b1)))), (2, .v (.c (.k (Pt b2)))), (3, .v (.c (.k (Pt g3)))), (5, .v (.c (.k (.slice A set.length rc)))), (8, .v (.c (.ptr 8 0 1 0))), (9, .v (.c (.k (I k)))), (10, .v (.c (.k (I dt)))), (36, .v (.c (.k (I ((m + 1 : Nat) : Int))))), (37, .v (.c (.k (I k))))]
        [(1, .say S2 R2), (2, .say Z (J s Z)), (34, .say (sb (.slice A set.length rc)) (fun w => RdRow w A set.length 1 (fun j => [us j]))), (8, .var 100 [accV 833 1 k kp, accV 834 1 k kq]), (833, accB 3 1 k kp (elI (R.take k))), (834, accB 3 1 k kq (elI ((negW R).take k)))])
      (St.le_of (by cases k <;> rfl) ⟨⟨_, rfl, Blk.le_refl _⟩, ⟨_, rfl, Blk.le_refl _⟩, ⟨_, rfl, Blk.le_refl _⟩, ⟨_, rfl, Blk.le_refl _⟩, ⟨_, rfl, Blk.le_refl _⟩, ⟨_, rfl, Blk.le_refl _⟩, trivial⟩ ⟨rfl, rfl, rfl, rfl, rfl, rfl, rfl, rfl, rfl, trivial⟩) ?_
    have hdt2 : rayX (rowsR L set) (m + 1) k = if k % 2 = 1 then W (0 - dt) else dt := by rw [rayX, hdt, hcols]
    refine G.join (fun z : Int => St.of [(1, .v (.c (.k (Pt b1)))), (2, .v (.c (.k (Pt b2)))), (3, .v (.c (.k (Pt g3)))), (5, .v (.c (.k (.slice A set.length rc)))), (8, .v (.c (.ptr 8 0 1 0))), (9, .v (.c (.k (I k)))), (10, .v (.c (.k (I z)))), (36, .v (.c (.k (I ((m + 1 : Nat) : Int))))), (37, .v (.c (.k (I k))))]
        [(1, .say S2 R2), (2, .say Z (J s Z)), (34, .say (sb (.slice A set.length rc)) (fun w => RdRow w A set.length 1 (fun j => [us j]))), (8, .var 100 [accV 833 1 k kp, accV 834 1 k kq]), (833, accB 3 1 k kp (elI (R.take k))), (834, accB 3 1 k kq (elI ((negW R).take k)))])
      (fun z => z = rayX (rowsR L set) (m + 1) k) ?_ ?_
    · refine G.seqR tfine rfl ⟨by decide, trivial⟩ ?_
      have hrem : ((k : Int).tmod 2 == 1) = decide (k % 2 = 1) := by
        have e : (k : Int).tmod 2 = ((k % 2 : Nat) : Int) := by rw [Int.tmod_eq_emod_of_nonneg (by omega)]; omega
        rw [e, Bool.eq_iff_iff, beq_iff_eq, decide_eq_true_iff]
        omega
      refine G.cond (b := decide (k % 2 = 1)) (congrArg (fun b => TV.v (.c (.k (.bool b)))) hrem) (fun h => ?_) (fun h => ?_)
      · refine G.reg tfine rfl trivial ?_
        refine ⟨W (0 - dt), by rw [hdt2, if_pos (of_decide_eq_true h)], St.le_of (by cases k <;> rfl) ⟨⟨_, rfl, Blk.le_refl _⟩, ⟨_, rfl, Blk.le_refl _⟩, ⟨_, rfl, Blk.le_refl _⟩, ⟨_, rfl, Blk.le_refl _⟩, ⟨_, rfl, Blk.le_refl _⟩, ⟨_, rfl, Blk.le_refl _⟩, trivial⟩ ⟨rfl, rfl, rfl, rfl, rfl, rfl, rfl, rfl, rfl, trivial⟩⟩
      · refine G.skip ?_
        refine ⟨dt, by rw [hdt2, if_neg (of_decide_eq_false h)], St.le_of (by cases k <;> rfl) ⟨⟨_, rfl, Blk.le_refl _⟩, ⟨_, rfl, Blk.le_refl _⟩, ⟨_, rfl, Blk.le_refl _⟩, ⟨_, rfl, Blk.le_refl _⟩, ⟨_, rfl, Blk.le_refl _⟩, ⟨_, rfl, Blk.le_refl _⟩, trivial⟩ ⟨rfl, rfl, rfl, rfl, rfl, rfl, rfl, rfl, rfl, trivial⟩⟩
    rintro v hv
    have hs0 := take_snoc R k v (by omega) (by rw [hR, rayL_get _ _ _ hkn, ← hv])
    have hs1 := take_snoc (negW R) k (W (0 - v)) (by rw [negW_len]; omega) (by rw [negW_get _ _ (by omega), hR, rayL_get _ _ _ hkn, ← hv])
    clear hdt2 hv
    rcases k with _ | k
    · apply G.drawC (ch := fun j => match j with | 4 => some (accF 833 57 (0 + 1) 1 3 (elN (elI (R.take 0)) 0 [I v])) | 10 => some (accF 834 63 (0 + 1) 1 3 (elN (elI ((negW R).take 0)) 0 [I (W (0 - v))])) | _ => none) (cls := [0, 1, 0, 4, 15, 0, 32, 0, 128, 384, 1023, 127, 4095, 8191, 16383]) (X := [(4, 57), (4, 833), (10, 63), (10, 834), (12, 8), (14, 8)]) hmix rfl rfl rfl
      · intro c
        refine GC.more tfine 0 rfl rfl rfl ⟨by decide, by decide, trivial⟩ ?_
        refine GC.choice 4 rfl _ rfl (StepsC.appendAcc (n := 0) (c := kp) [I v] apT35 rfl rfl rfl rfl rfl rfl rfl rfl rfl rfl rfl rfl rfl (fun u hu => by simp at hu; subst hu; rfl) (fun k hk => rfl) (by unfold maxLen; omega) (by omega)) rfl accF_nm rfl ?_
        refine GC.more tfine 5 rfl rfl rfl ⟨by decide, by decide, trivial⟩ ?_
        refine GC.choice 10 rfl _ rfl (StepsC.appendAcc (n := 0) (c := kq) [I (W (0 - v))] apT35 rfl rfl rfl rfl rfl rfl rfl rfl rfl rfl rfl rfl rfl (fun u hu => by simp at hu; subst hu; rfl) (fun k hk => rfl) (by unfold maxLen; omega) (by omega)) rfl accF_nm rfl ?_
        refine GC.more tfine 11 rfl rfl rfl ?_ ?_
        · first | trivial | (simp only [AllP]; and_intros <;> first | trivial | decide | omega)
        refine GC.nil ?_
        obtain ⟨kp2, hkp2⟩ : ∃ kp2, kp2 = capN (0 + 1) (c 4) := ⟨_, rfl⟩
        have hkl : 0 + 1 ≤ kp2 := by rw [hkp2]; exact capN_le _ _
        obtain ⟨kq2, hkq2⟩ : ∃ kq2, kq2 = capN (0 + 1) (c 10) := ⟨_, rfl⟩
        have hkql : 0 + 1 ≤ kq2 := by rw [hkq2]; exact capN_le _ _
        refine G.weaken (st' := St.of [(1, .v (.c (.k (Pt b1)))), (2, .v (.c (.k (Pt b2)))), (3, .v (.c (.k (Pt g3)))), (5, .v (.c (.k (.slice A set.length rc)))), (8, .v (.c (.ptr 8 0 1 0))), (36, .v (.c (.k (I ((m + 1 : Nat) : Int))))), (37, .v (.c (.k (I (0 : Nat)))))]
          [(1, .say S2 R2), (2, .say Z (J s Z)), (34, .say (sb (.slice A set.length rc)) (fun w => RdRow w A set.length 1 (fun j => [us j]))), (8, .var 100 [.slc 57 0 1 (0 + 1) kp2, .slc 63 0 1 (0 + 1) kq2]), (57, .arr 3 1 (0 + 1) (elN (elI (R.take 0)) 0 [I v]) ((kp2 - (0 + 1)) * 1)), (63, .arr 3 1 (0 + 1) (elN (elI ((negW R).take 0)) 0 [I (W (0 - v))]) ((kq2 - (0 + 1)) * 1))])
          (St.le_of rfl ⟨⟨_, rfl, Blk.le_refl _⟩, ⟨_, rfl, Blk.le_refl _⟩, ⟨_, rfl, Blk.le_refl _⟩, ⟨_, rfl, by rw [hkp2, hkq2]; exact Blk.le_refl _⟩, ⟨_, rfl, by rw [hkp2]; exact Blk.le_refl _⟩, ⟨_, rfl, by rw [hkq2]; exact Blk.le_refl _⟩, trivial⟩ ⟨rfl, rfl, rfl, rfl, rfl, rfl, rfl, trivial⟩) ?_
        refine G.rn 57 833 rfl trivial rfl rfl rfl ?_
        refine G.rn 63 834 rfl trivial rfl rfl rfl ?_
        refine G.reg tfine rfl trivial ?_
        refine ⟨(0 + 1, kp2, kq2), ⟨by simp only; omega, hkl, hkql⟩, (by show m + 1 - (0 + 1) < m + 1 - 0; omega), ?_⟩
        exact St.le_of rfl ⟨⟨_, rfl, Blk.le_refl _⟩, ⟨_, rfl, Blk.le_refl _⟩, ⟨_, rfl, Blk.le_refl _⟩, ⟨_, rfl, Blk.le_refl _⟩, ⟨_, rfl, rfl, rfl, Nat.le_refl _, hs0, Nat.le_refl _⟩, ⟨_, rfl, rfl, rfl, Nat.le_refl _, hs1, Nat.le_refl _⟩, trivial⟩ ⟨rfl, rfl, rfl, rfl, rfl, rfl, by first | rfl | (simp [up, I, rnS, rnTV, rnAV, rnAC]; rw [IntWalk.i64_in _ (by omega)]), trivial⟩
      ·
        intro c c' j hj h
        have hj : j < 15 := hj
        match j, hj, h with
        | 0, _, h => first | rfl | (show some _ = some _; done)
        | 1, _, h => first | rfl | (show some _ = some _; done)
        | 2, _, h => first | rfl | (show some _ = some _; done)
        | 3, _, h => first | rfl | (show some _ = some _; done)
        | 4, _, h => first | rfl | (show some _ = some _; (try rw [h 4 (.inl rfl)]); (try rw [h 4 (.inr ⟨rfl, rfl⟩)]); done)
        | 5, _, h => first | rfl | (show some _ = some _; (try rw [h 4 (.inl rfl)]); (try rw [h 4 (.inr ⟨rfl, rfl⟩)]); done)
        | 6, _, h => first | rfl | (show some _ = some _; (try rw [h 4 (.inl rfl)]); (try rw [h 4 (.inr ⟨rfl, rfl⟩)]); done)
        | 7, _, h => first | rfl | (show some _ = some _; (try rw [h 4 (.inl rfl)]); (try rw [h 4 (.inr ⟨rfl, rfl⟩)]); done)
        | 8, _, h => first | rfl | (show some _ = some _; (try rw [h 4 (.inl rfl)]); (try rw [h 4 (.inr ⟨rfl, rfl⟩)]); done)
        | 9, _, h => first | rfl | (show some _ = some _; (try rw [h 4 (.inl rfl)]); (try rw [h 4 (.inr ⟨rfl, rfl⟩)]); done)
        | 10, _, h => first | rfl | (show some _ = some _; (try rw [h 4 (.inl rfl)]); (try rw [h 4 (.inr ⟨rfl, rfl⟩)]); (try rw [h 10 (.inl rfl)]); (try rw [h 10 (.inr ⟨rfl, rfl⟩)]); done)
        | 11, _, h => first | rfl | (show some _ = some _; (try rw [h 4 (.inl rfl)]); (try rw [h 4 (.inr ⟨rfl, rfl⟩)]); (try rw [h 10 (.inl rfl)]); (try rw [h 10 (.inr ⟨rfl, rfl⟩)]); done)
        | 12, _, h => first | rfl | (show some _ = some _; (try rw [h 4 (.inl rfl)]); (try rw [h 4 (.inr ⟨rfl, rfl⟩)]); (try rw [h 10 (.inl rfl)]); (try rw [h 10 (.inr ⟨rfl, rfl⟩)]); done)
        | 13, _, h => first | rfl | (show some _ = some _; (try rw [h 4 (.inl rfl)]); (try rw [h 4 (.inr ⟨rfl, rfl⟩)]); (try rw [h 10 (.inl rfl)]); (try rw [h 10 (.inr ⟨rfl, rfl⟩)]); done)
        | 14, _, h => first | rfl | (show some _ = some _; (try rw [h 4 (.inl rfl)]); (try rw [h 4 (.inr ⟨rfl, rfl⟩)]); (try rw [h 10 (.inl rfl)]); (try rw [h 10 (.inr ⟨rfl, rfl⟩)]); done)
        | q + 15, hj, h => exact absurd hj (by omega)
    · apply G.drawC (ch := fun j => match j with | 4 => some (accF 833 57 ((k + 1) + 1) 1 3 (elN (elI (R.take (k + 1))) (k + 1) [I v])) | 10 => some (accF 834 63 ((k + 1) + 1) 1 3 (elN (elI ((negW R).take (k + 1))) (k + 1) [I (W (0 - v))])) | _ => none) (cls := [0, 1, 0, 4, 15, 0, 32, 0, 128, 384, 1023, 127, 4095, 8191, 16383]) (X := [(4, 57), (4, 833), (10, 63), (10, 834), (12, 8), (14, 8)]) hmix rfl rfl rfl
      · intro c
        refine GC.more tfine 0 rfl rfl rfl ⟨by decide, by decide, trivial⟩ ?_
        refine GC.choice 4 rfl _ rfl (StepsC.appendAcc (n := (k + 1)) (c := kp) [I v] apT35 rfl rfl rfl rfl rfl rfl rfl rfl rfl rfl rfl rfl rfl (fun u hu => by simp at hu; subst hu; rfl) (fun k hk => rfl) (by unfold maxLen; omega) (by omega)) rfl accF_nm rfl ?_
        refine GC.more tfine 5 rfl rfl rfl ⟨by decide, by decide, trivial⟩ ?_
        refine GC.choice 10 rfl _ rfl (StepsC.appendAcc (n := (k + 1)) (c := kq) [I (W (0 - v))] apT35 rfl rfl rfl rfl rfl rfl rfl rfl rfl rfl rfl rfl rfl (fun u hu => by simp at hu; subst hu; rfl) (fun k hk => rfl) (by unfold maxLen; omega) (by omega)) rfl accF_nm rfl ?_
        refine GC.more tfine 11 rfl rfl rfl ?_ ?_
        · first | trivial | (simp only [AllP]; and_intros <;> first | trivial | decide | omega)
        refine GC.nil ?_
        obtain ⟨kp2, hkp2⟩ : ∃ kp2, kp2 = capN ((k + 1) + 1) (c 4) := ⟨_, rfl⟩
        have hkl : (k + 1) + 1 ≤ kp2 := by rw [hkp2]; exact capN_le _ _
        obtain ⟨kq2, hkq2⟩ : ∃ kq2, kq2 = capN ((k + 1) + 1) (c 10) := ⟨_, rfl⟩
        have hkql : (k + 1) + 1 ≤ kq2 := by rw [hkq2]; exact capN_le _ _
        refine G.weaken (st' := St.of [(1, .v (.c (.k (Pt b1)))), (2, .v (.c (.k (Pt b2)))), (3, .v (.c (.k (Pt g3)))), (5, .v (.c (.k (.slice A set.length rc)))), (8, .v (.c (.ptr 8 0 1 0))), (36, .v (.c (.k (I ((m + 1 : Nat) : Int))))), (37, .v (.c (.k (I ((k + 1) : Nat)))))]
          [(1, .say S2 R2), (2, .say Z (J s Z)), (34, .say (sb (.slice A set.length rc)) (fun w => RdRow w A set.length 1 (fun j => [us j]))), (8, .var 100 [.slc 57 0 1 ((k + 1) + 1) kp2, .slc 63 0 1 ((k + 1) + 1) kq2]), (57, .arr 3 1 ((k + 1) + 1) (elN (elI (R.take (k + 1))) (k + 1) [I v]) ((kp2 - ((k + 1) + 1)) * 1)), (63, .arr 3 1 ((k + 1) + 1) (elN (elI ((negW R).take (k + 1))) (k + 1) [I (W (0 - v))]) ((kq2 - ((k + 1) + 1)) * 1))])
          (St.le_of rfl ⟨⟨_, rfl, Blk.le_refl _⟩, ⟨_, rfl, Blk.le_refl _⟩, ⟨_, rfl, Blk.le_refl _⟩, ⟨_, rfl, by rw [hkp2, hkq2]; exact Blk.le_refl _⟩, ⟨_, rfl, by rw [hkp2]; exact Blk.le_refl _⟩, ⟨_, rfl, by rw [hkq2]; exact Blk.le_refl _⟩, trivial⟩ ⟨rfl, rfl, rfl, rfl, rfl, rfl, rfl, trivial⟩) ?_
        refine G.rn 57 833 rfl trivial rfl rfl rfl ?_
        refine G.rn 63 834 rfl trivial rfl rfl rfl ?_
        refine G.reg tfine rfl trivial ?_
        refine ⟨((k + 1) + 1, kp2, kq2), ⟨by simp only; omega, hkl, hkql⟩, (by show m + 1 - ((k + 1) + 1) < m + 1 - (k + 1); omega), ?_⟩
        exact St.le_of rfl ⟨⟨_, rfl, Blk.le_refl _⟩, ⟨_, rfl, Blk.le_refl _⟩, ⟨_, rfl, Blk.le_refl _⟩, ⟨_, rfl, Blk.le_refl _⟩, ⟨_, rfl, rfl, rfl, Nat.le_refl _, hs0, Nat.le_refl _⟩, ⟨_, rfl, rfl, rfl, Nat.le_refl _, hs1, Nat.le_refl _⟩, trivial⟩ ⟨rfl, rfl, rfl, rfl, rfl, rfl, by first | rfl | (simp [up, I, rnS, rnTV, rnAV, rnAC]; rw [IntWalk.i64_in _ (by omega)]), trivial⟩
      ·
        intro c c' j hj h
        have hj : j < 15 := hj
        match j, hj, h with
        | 0, _, h => first | rfl | (show some _ = some _; done)
        | 1, _, h => first | rfl | (show some _ = some _; done)
        | 2, _, h => first | rfl | (show some _ = some _; done)
        | 3, _, h => first | rfl | (show some _ = some _; done)
        | 4, _, h => first | rfl | (show some _ = some _; (try rw [h 4 (.inl rfl)]); (try rw [h 4 (.inr ⟨rfl, rfl⟩)]); done)
        | 5, _, h => first | rfl | (show some _ = some _; (try rw [h 4 (.inl rfl)]); (try rw [h 4 (.inr ⟨rfl, rfl⟩)]); done)
        | 6, _, h => first | rfl | (show some _ = some _; (try rw [h 4 (.inl rfl)]); (try rw [h 4 (.inr ⟨rfl, rfl⟩)]); done)
        | 7, _, h => first | rfl | (show some _ = some _; (try rw [h 4 (.inl rfl)]); (try rw [h 4 (.inr ⟨rfl, rfl⟩)]); done)
        | 8, _, h => first | rfl | (show some _ = some _; (try rw [h 4 (.inl rfl)]); (try rw [h 4 (.inr ⟨rfl, rfl⟩)]); done)
        | 9, _, h => first | rfl | (show some _ = some _; (try rw [h 4 (.inl rfl)]); (try rw [h 4 (.inr ⟨rfl, rfl⟩)]); done)
        | 10, _, h => first | rfl | (show some _ = some _; (try rw [h 4 (.inl rfl)]); (try rw [h 4 (.inr ⟨rfl, rfl⟩)]); (try rw [h 10 (.inl rfl)]); (try rw [h 10 (.inr ⟨rfl, rfl⟩)]); done)
        | 11, _, h => first | rfl | (show some _ = some _; (try rw [h 4 (.inl rfl)]); (try rw [h 4 (.inr ⟨rfl, rfl⟩)]); (try rw [h 10 (.inl rfl)]); (try rw [h 10 (.inr ⟨rfl, rfl⟩)]); done)
        | 12, _, h => first | rfl | (show some _ = some _; (try rw [h 4 (.inl rfl)]); (try rw [h 4 (.inr ⟨rfl, rfl⟩)]); (try rw [h 10 (.inl rfl)]); (try rw [h 10 (.inr ⟨rfl, rfl⟩)]); done)
        | 13, _, h => first | rfl | (show some _ = some _; (try rw [h 4 (.inl rfl)]); (try rw [h 4 (.inr ⟨rfl, rfl⟩)]); (try rw [h 10 (.inl rfl)]); (try rw [h 10 (.inr ⟨rfl, rfl⟩)]); done)
        | 14, _, h => first | rfl | (show some _ = some _; (try rw [h 4 (.inl rfl)]); (try rw [h 4 (.inr ⟨rfl, rfl⟩)]); (try rw [h 10 (.inl rfl)]); (try rw [h 10 (.inr ⟨rfl, rfl⟩)]); done)
        | q + 15, hj, h => exact absurd hj (by omega)
  · have h4 := of_decide_eq_false h4
    have e : k = m + 1 := by omega
    subst e
    refine G.exit ?_
    rw [List.take_of_length_le (by rw [hRl]; exact Nat.le_refl _), List.take_of_length_le (by rw [negW_len, hRl]; exact Nat.le_refl _)]
    have hNl : (negW R).length = m + 1 := by rw [negW_len, hRl]
    obtain ⟨g, hg⟩ : ∃ g : Int, g = divM R := ⟨_, rfl⟩
    refine G.weaken (st' := St.of [(1, .v (.c (.k (Pt b1)))), (2, .v (.c (.k (Pt b2)))), (3, .v (.c (.k (Pt g3)))), (8, .v (.c (.ptr 8 0 1 0)))]
        [(1, .say S2 R2), (2, .say Z (J s Z)), (8, .var 100 [.slc 833 0 1 (m + 1) kp, .slc 834 0 1 (m + 1) kq]), (833, .arr 3 1 (m + 1) (elI R) ((kp - (m + 1)) * 1)), (834, .arr 3 1 (m + 1) (elI (negW R)) ((kq - (m + 1)) * 1))])
      (St.le_of rfl ⟨⟨_, rfl, Blk.le_refl _⟩, ⟨_, rfl, Blk.le_refl _⟩, ⟨_, rfl, Blk.le_refl _⟩, ⟨_, rfl, Blk.le_refl _⟩, ⟨_, rfl, Blk.le_refl _⟩, trivial⟩ ⟨rfl, rfl, rfl, rfl, trivial⟩) ?_
    refine G.seqC tfine rfl ⟨by decide, by decide, trivial⟩ ?_
    refine GO.callPlain (v := I g) rfl rfl rfl rfl (fun args w => Try.call83 args w) (fun ρ w hs hok => ?_) ?_
    · have hC := hs.rdArr (x := 833) rfl 0 (m + 1) (by omega)
      have := div_any _ kp R w (by rw [hRl]; exact hC.congr fun i hi => by rw [Nat.zero_add]) (by omega)
      rw [hRl, ← hg] at this
      exact this
    refine GO.fin tfine rfl trivial ?_
    refine G.seqR tfine rfl trivial ?_
    obtain ⟨R0, hR0⟩ : ∃ R0, R0 = divX g R := ⟨_, rfl⟩
    obtain ⟨R1, hR1⟩ : ∃ R1, R1 = divX g (negW R) := ⟨_, rfl⟩
    have hR0l : R0.length = m + 1 := by rw [hR0, divX_len, hRl]
    have hR1l : R1.length = m + 1 := by rw [hR1, divX_len, hNl]
    have hro : raysOf L (m + 1) set = (bif (decide (g > 0) && keepsM L R0 1) then [R0] else []) ++ (bif (decide (g > 0) && keepsM L R1 1) then [R1] else []) := by
      simp only [raysOf, rayOk, ray0, ray1, ← hR, ← hg, ← hR0, ← hR1]
    have hm0 : (decide (g > 0) && keepsM L R0 1) = true → R0 ∈ raysM L (m + 1) := fun e => List.mem_flatMap.2 ⟨set, hmem, by rw [hro, e]; simp⟩
    have hm1 : (decide (g > 0) && keepsM L R1 1) = true → R1 ∈ raysM L (m + 1) := fun e => List.mem_flatMap.2 ⟨set, hmem, by rw [hro, e]; simp⟩
    rw [hro]
    refine G.block (G.rounds (GI.round ?_))
    refine G.seqR tfine rfl trivial ?_
    refine G.seq (G.cond_true rfl ?_)
    refine G.skip ?_
    refine G.seq (G.block ?_)
    refine G.seqR tfine rfl ⟨by decide, by decide, trivial⟩ ?_
    refine G.seq ?_
    refine G.seqR tfine rfl trivial ?_
    refine G.block (G.loop (fun j : Nat => St.of [(1, .v (.c (.k (Pt b1)))), (2, .v (.c (.k (Pt b2)))), (3, .v (.c (.k (Pt g3)))), (11, .v (.c (.k (I g)))), (13, .v (.c (.slc 833 0 1 (m + 1) kp))), (70, .v (.agg [.slc 833 0 1 (m + 1) kp, .slc 834 0 1 (m + 1) kq])), (71, .v (.c (.k (I 0)))), (75, .v (.c (.k (I ((m + 1 : Nat) : Int))))), (76, .v (.c (.k (I j))))]
        [(1, .say S2 R2), (2, .say Z (J s Z)), (833, .arr 3 1 (m + 1) (mixE R R0 j) ((kp - (m + 1)) * 1)), (834, .arr 3 1 (m + 1) (elI (negW R)) ((kq - (m + 1)) * 1))])
      (fun j => j ≤ m + 1) (fun j => m + 1 - j) 0 (Nat.zero_le _) (St.le_of rfl ⟨⟨_, rfl, Blk.le_refl _⟩, ⟨_, rfl, Blk.le_refl _⟩, ⟨_, rfl, rfl, rfl, Nat.le_refl _, (fun j hj => rfl), Nat.le_refl _⟩, ⟨_, rfl, Blk.le_refl _⟩, trivial⟩ ⟨rfl, rfl, rfl, rfl, rfl, rfl, rfl, rfl, rfl, trivial⟩) ?_)
    rintro j hj
    refine G.seqR tfine rfl trivial ?_
    refine G.seq ?_
    refine G.cond (b := decide ((j : Int) < ((m + 1 : Nat) : Int))) rfl (fun h5 => ?_) (fun h5 => ?_)
    · have h5 := of_decide_eq_true h5
      have hjn : j < m + 1 := by omega
      refine G.skip ?_
      refine G.seq ?_
      refine G.block ?_
      refine G.seqR tfine rfl trivial ?_
      refine G.reg tfine rfl ?_ ?_
      · have hmx := max1_ne g
        unfold max1 at hmx
        exact ⟨by omega, by omega, by omega, hmx, by omega, by omega, by omega, trivial⟩
      refine G.reg tfine rfl trivial ?_
      rw [IntWalk.i64_in ((j : Int) + 1) (by omega)]
      refine ⟨j + 1, by omega, (by show m + 1 - (j + 1) < m + 1 - j; omega), ?_⟩
      exact St.le_of rfl ⟨⟨_, rfl, Blk.le_refl _⟩, ⟨_, rfl, Blk.le_refl _⟩, ⟨_, rfl, rfl, rfl, Nat.le_refl _, (fun q hq => by
        have := mixE_step R g j q (by omega)
        rw [← hR0] at this
        exact this), Nat.le_refl _⟩, ⟨_, rfl, Blk.le_refl _⟩, trivial⟩ ⟨rfl, rfl, rfl, rfl, rfl, rfl, rfl, rfl, by simp [up, I], trivial⟩
    have h5 := of_decide_eq_false h5
    have e : j = m + 1 := by omega
    subst e
    refine G.exit ?_
    refine G.freezeArr 833 13 rfl rfl (Nat.le_refl _) fun f833 hf833 => ?_
    have hf833 : W2.heap.size ≤ f833 := by
      rcases hf833 with h | h
      · exact h
      · have := (borT_mem h).1
        simp only at this
        omega
    have hI833 : ∀ w, RdRow w (some ⟨f833, 0, none⟩) (m + 1) 1 (mixE R R0 (m + 1)) → IntsAt w (.slice (some ⟨f833, 0, none⟩) (m + 1) kp) R0 := fun w h => by
      have : R0.length = m + 1 := hR0l
      exact ⟨some ⟨f833, 0, none⟩, kp, by rw [this], by rw [this]; exact h.congr fun i hi => (mixE_all R R0 (m + 1) i hi).symm, fun _ => by rw [this]; exact hkp⟩
    refine G.weaken (st' := St.of [(1, .v (.c (.k (Pt b1)))), (2, .v (.c (.k (Pt b2)))), (3, .v (.c (.k (Pt g3)))), (11, .v (.c (.k (I g)))), (13, .v (.c (.k (.slice (some ⟨f833, 0, none⟩) (m + 1) kp)))), (70, .v (.agg [.slc 833 0 1 (m + 1) kp, .slc 834 0 1 (m + 1) kq])), (71, .v (.c (.k (I 0))))]
        [(1, .say S2 R2), (2, .say Z (J s Z)), (833, .say (· = f833) (fun w => RdRow w (some ⟨f833, 0, none⟩) (m + 1) 1 (mixE R R0 (m + 1)))), (834, .arr 3 1 (m + 1) (elI (negW R)) ((kq - (m + 1)) * 1))]) (St.le_of rfl ⟨⟨_, rfl, Blk.le_refl _⟩, ⟨_, rfl, Blk.le_refl _⟩, ⟨_, rfl, Blk.le_refl _⟩, ⟨_, rfl, Blk.le_refl _⟩, trivial⟩ ⟨rfl, rfl, rfl, rfl, rfl, rfl, rfl, trivial⟩) ?_
    refine G.seqC tfine rfl trivial ?_
    refine GO.steps (Steps.loadKG tfine 1 [.slice AL L.length cL] rfl rfl trivial rfl rfl rfl rfl hb1 rfl rfl) ?_
    refine GO.more tfine rfl trivial ?_
    refine GO.callGuard (.bool (keepsM L R0 1)) rfl rfl rfl ⟨fun h => h, fun h => h, trivial⟩ rfl rfl (fun args w => Try.call78 args w) rfl (fun hct m' hle ρ w hs hok => ?_) ?_
    · have hI := hI833 w (hs.ok 833 _ (hle.at rfl)).1
      obtain ⟨A', c', e', h1, _⟩ := hI
      have : R0.length = m + 1 := hR0l
      have hk := keeps_any (.slice AL L.length cL) L vs A' c' R0 1 w (hcon w (hs.ok 1 _ (hle.at rfl)).1) h1 (fun i hi => by rw [hrow _ (cAt_mem hi), this]; exact Nat.le_refl _) (by omega) (by omega)
      rw [← e'] at hk
      exact hk
    generalize hp : decide (g > 0) = p at hm0 hm1 ⊢
    generalize hq0 : keepsM L R0 1 = q0 at hm0 ⊢
    generalize hq1 : keepsM L R1 1 = q1 at hm1 ⊢
    refine GO.more tfine rfl ?_ ?_
    · simp only [AllP, condB]; and_intros <;> first | trivial | (cases p <;> cases q0 <;> simp)
    refine GO.steps (Steps.loadKG tfine 1 [.func (.yield l0) #[] #[]] rfl rfl trivial rfl rfl rfl rfl hg3 rfl rfl) ?_
    refine GO.more tfine rfl trivial ?_
    refine GO.yieldTF 2 s R0 Z hRd (fun h => hm0 (by cases p <;> cases q0 <;> first | rfl | exact h)) rfl hTW rfl rfl rfl ⟨fun h => h, fun h => h, trivial⟩ rfl rfl rfl rfl rfl rfl (fun hct => calm_of (T := T) (xJ := 2) (ml := [(1, .say S2 R2), (2, .say Z (J s Z)), (833, .say (· = f833) (fun w => RdRow w (some ⟨f833, 0, none⟩) (m + 1) 1 (mixE R R0 (m + 1)))), (834, .arr 3 1 (m + 1) (elI (negW R)) ((kq - (m + 1)) * 1))]) ⟨.inr ⟨(by show (1 : Nat) < 1000; decide), hTs⟩, .inl rfl, .inr ⟨(by show (833 : Nat) < 1000; decide), fun k hk e => by have := hTW k hk; omega⟩, .inr ⟨(by show (834 : Nat) < 1000; decide), trivial⟩, trivial⟩) (fun hct ρ w hs hok => ?_) fun Z1 hZ1 => ?_
    · obtain ⟨f1, f2⟩ := hs.sayAt (X := 833) rfl
      have hv : ∀ k, vbk (.slice (some ⟨f833, 0, none⟩) (m + 1) kp) k → k = f833 := by
        rintro k ⟨_, a, e, rfl⟩
        cases e; rfl
      exact ⟨⟨hI833 w f1, fun k hk => by have := hv k hk; omega⟩, fun k hk => by
        have e := hv k hk
        exact ⟨by rw [e]; exact hf833, f2 k e⟩⟩
    refine GO.fin tfine rfl ?_ ?_
    · simp only [AllP, condB]; and_intros <;> first | trivial | (cases p <;> cases q0 <;> simp)
    refine G.cond_false (by cases p <;> cases q0 <;> rfl) ?_
    refine G.skip ?_
    refine G.reg tfine rfl trivial ?_
    refine GI.round ?_
    refine G.seqR tfine rfl trivial ?_
    refine G.seq (G.cond_true rfl ?_)
    refine G.skip ?_
    refine G.seq (G.block ?_)
    refine G.seqR tfine rfl ⟨by decide, by decide, trivial⟩ ?_
    refine G.seq ?_
    refine G.seqR tfine rfl trivial ?_
    refine G.block (G.loop (fun j : Nat => St.of [(1, .v (.c (.k (Pt b1)))), (2, .v (.c (.k (Pt b2)))), (3, .v (.c (.k (Pt g3)))), (11, .v (.c (.k (I g)))), (13, .v (.c (.slc 834 0 1 (m + 1) kq))), (70, .v (.agg [.slc 833 0 1 (m + 1) kp, .slc 834 0 1 (m + 1) kq])), (71, .v (.c (.k (I 1)))), (75, .v (.c (.k (I ((m + 1 : Nat) : Int))))), (76, .v (.c (.k (I j))))]
        [(1, .say S2 R2), (2, .say Z1 (J (bif (p && q0) then s ++ [R0] else s) Z1)), (834, .arr 3 1 (m + 1) (mixE (negW R) R1 j) ((kq - (m + 1)) * 1)), (833, .say (· = f833) (fun w => RdRow w (some ⟨f833, 0, none⟩) (m + 1) 1 (mixE R R0 (m + 1))))])
      (fun j => j ≤ m + 1) (fun j => m + 1 - j) 0 (Nat.zero_le _) (St.le_of rfl ⟨⟨_, rfl, Blk.le_refl _⟩, ⟨_, rfl, (by cases p <;> cases q0 <;> exact Blk.le_refl _)⟩, ⟨_, rfl, rfl, rfl, Nat.le_refl _, (fun j hj => rfl), Nat.le_refl _⟩, ⟨_, rfl, Blk.le_refl _⟩, trivial⟩ ⟨rfl, rfl, rfl, rfl, rfl, rfl, rfl, rfl, rfl, trivial⟩) ?_)
    rintro j hj
    refine G.seqR tfine rfl trivial ?_
    refine G.seq ?_
    refine G.cond (b := decide ((j : Int) < ((m + 1 : Nat) : Int))) rfl (fun h5 => ?_) (fun h5 => ?_)
    · have h5 := of_decide_eq_true h5
      have hjn : j < m + 1 := by omega
      refine G.skip ?_
      refine G.seq ?_
      refine G.block ?_
      refine G.seqR tfine rfl trivial ?_
      refine G.reg tfine rfl ?_ ?_
      · have hmx := max1_ne g
        unfold max1 at hmx
        exact ⟨by omega, by omega, by omega, hmx, by omega, by omega, by omega, trivial⟩
      refine G.reg tfine rfl trivial ?_
      rw [IntWalk.i64_in ((j : Int) + 1) (by omega)]
      refine ⟨j + 1, by omega, (by show m + 1 - (j + 1) < m + 1 - j; omega), ?_⟩
      exact St.le_of rfl ⟨⟨_, rfl, Blk.le_refl _⟩, ⟨_, rfl, Blk.le_refl _⟩, ⟨_, rfl, rfl, rfl, Nat.le_refl _, (fun q hq => by
        have := mixE_step (negW R) g j q (by omega)
        rw [← hR1] at this
        exact this), Nat.le_refl _⟩, ⟨_, rfl, Blk.le_refl _⟩, trivial⟩ ⟨rfl, rfl, rfl, rfl, rfl, rfl, rfl, rfl, by simp [up, I], trivial⟩
    have h5 := of_decide_eq_false h5
    have e : j = m + 1 := by omega
    subst e
    refine G.exit ?_
    refine G.freezeArr 834 13 rfl rfl (Nat.le_refl _) fun f834 hf834 => ?_
    have hf834 : W2.heap.size ≤ f834 := by
      rcases hf834 with h | h
      · exact h
      · have := (borT_mem h).1
        simp only at this
        omega
    have hI834 : ∀ w, RdRow w (some ⟨f834, 0, none⟩) (m + 1) 1 (mixE (negW R) R1 (m + 1)) → IntsAt w (.slice (some ⟨f834, 0, none⟩) (m + 1) kq) R1 := fun w h => by
      have : R1.length = m + 1 := hR1l
      exact ⟨some ⟨f834, 0, none⟩, kq, by rw [this], by rw [this]; exact h.congr fun i hi => (mixE_all (negW R) R1 (m + 1) i hi).symm, fun _ => by rw [this]; exact hkq⟩
    refine G.weaken (st' := St.of [(1, .v (.c (.k (Pt b1)))), (2, .v (.c (.k (Pt b2)))), (3, .v (.c (.k (Pt g3)))), (11, .v (.c (.k (I g)))), (13, .v (.c (.k (.slice (some ⟨f834, 0, none⟩) (m + 1) kq)))), (70, .v (.agg [.slc 833 0 1 (m + 1) kp, .slc 834 0 1 (m + 1) kq])), (71, .v (.c (.k (I 1))))]
        [(1, .say S2 R2), (2, .say Z1 (J (bif (p && q0) then s ++ [R0] else s) Z1)), (834, .say (· = f834) (fun w => RdRow w (some ⟨f834, 0, none⟩) (m + 1) 1 (mixE (negW R) R1 (m + 1)))), (833, .say (· = f833) (fun w => RdRow w (some ⟨f833, 0, none⟩) (m + 1) 1 (mixE R R0 (m + 1))))]) (St.le_of rfl ⟨⟨_, rfl, Blk.le_refl _⟩, ⟨_, rfl, Blk.le_refl _⟩, ⟨_, rfl, Blk.le_refl _⟩, ⟨_, rfl, Blk.le_refl _⟩, trivial⟩ ⟨rfl, rfl, rfl, rfl, rfl, rfl, rfl, trivial⟩) ?_
    refine G.seqC tfine rfl trivial ?_
    refine GO.steps (Steps.loadKG tfine 1 [.slice AL L.length cL] rfl rfl trivial rfl rfl rfl rfl hb1 rfl rfl) ?_
    refine GO.more tfine rfl trivial ?_
    refine GO.callGuard (.bool (keepsM L R1 1)) rfl rfl rfl ⟨fun h => h, fun h => h, trivial⟩ rfl rfl (fun args w => Try.call78 args w) rfl (fun hct m' hle ρ w hs hok => ?_) ?_
    · have hI := hI834 w (hs.ok 834 _ (hle.at rfl)).1
      obtain ⟨A', c', e', h1, _⟩ := hI
      have : R1.length = m + 1 := hR1l
      have hk := keeps_any (.slice AL L.length cL) L vs A' c' R1 1 w (hcon w (hs.ok 1 _ (hle.at rfl)).1) h1 (fun i hi => by rw [hrow _ (cAt_mem hi), this]; exact Nat.le_refl _) (by omega) (by omega)
      rw [← e'] at hk
      exact hk
    simp only [hp, hq1]
    refine GO.more tfine rfl ?_ ?_
    · simp only [AllP, condB]; and_intros <;> first | trivial | (cases p <;> cases q1 <;> simp)
    refine GO.steps (Steps.loadKG tfine 1 [.func (.yield l0) #[] #[]] rfl rfl trivial rfl rfl rfl rfl hg3 rfl rfl) ?_
    refine GO.more tfine rfl trivial ?_
    refine GO.yieldTF 2 (bif (p && q0) then s ++ [R0] else s) R1 Z1 hRd (fun h => hm1 (by cases p <;> cases q1 <;> first | rfl | exact h)) rfl hTW rfl rfl rfl ⟨fun h => h, fun h => h, trivial⟩ rfl rfl rfl rfl rfl rfl (fun hct => calm_of (T := T) (xJ := 2) (ml := [(1, .say S2 R2), (2, .say Z1 (J (bif (p && q0) then s ++ [R0] else s) Z1)), (834, .say (· = f834) (fun w => RdRow w (some ⟨f834, 0, none⟩) (m + 1) 1 (mixE (negW R) R1 (m + 1)))), (833, .say (· = f833) (fun w => RdRow w (some ⟨f833, 0, none⟩) (m + 1) 1 (mixE R R0 (m + 1))))]) ⟨.inr ⟨(by show (1 : Nat) < 1000; decide), hTs⟩, .inl rfl, .inr ⟨(by show (834 : Nat) < 1000; decide), fun k hk e => by have := hTW k hk; omega⟩, .inr ⟨(by show (833 : Nat) < 1000; decide), fun k hk e => by have := hTW k hk; omega⟩, trivial⟩) (fun hct ρ w hs hok => ?_) fun Z2 hZ2 => ?_
    · obtain ⟨f1, f2⟩ := hs.sayAt (X := 834) rfl
      have hv : ∀ k, vbk (.slice (some ⟨f834, 0, none⟩) (m + 1) kq) k → k = f834 := by
        rintro k ⟨_, a, e, rfl⟩
        cases e; rfl
      exact ⟨⟨hI834 w f1, fun k hk => by have := hv k hk; omega⟩, fun k hk => by
        have e := hv k hk
        exact ⟨by rw [e]; exact hf834, f2 k e⟩⟩
    refine GO.fin tfine rfl ?_ ?_
    · simp only [AllP, condB]; and_intros <;> first | trivial | (cases p <;> cases q1 <;> simp)
    refine G.cond_false (by cases p <;> cases q1 <;> rfl) ?_
    refine G.skip ?_
    refine G.reg tfine rfl trivial ?_
    refine GI.round ?_
    refine G.seqR tfine rfl trivial ?_
    refine G.seq (G.cond_false rfl ?_)
    have e : s ++ ((bif (p && q0) then [R0] else []) ++ (bif (p && q1) then [R1] else [])) = bif (p && q1) then (bif (p && q0) then s ++ [R0] else s) ++ [R1] else (bif (p && q0) then s ++ [R0] else s) := by cases p <;> cases q0 <;> cases q1 <;> simp
    rw [e]
    refine G.exit ?_
    refine ⟨rfl, Z2, by cases p <;> cases q0 <;> cases q1 <;> rfl, fun k hk => ?_, rfl⟩
    rcases hZ2 k hk with h | h
    · exact hZ1 k h
    · exact .inr h
end Go.Proofs.Ytafhnfcahhlanaa
/- Chapter 27: the rays are an iterator. -/
set_option linter.unusedVariables false
set_option linter.unusedSimpArgs false
set_option maxRecDepth 8000
set_option maxHeartbeats 2000000
namespace Go.Proofs.Ytafhnfcahhlanaa
open Go.Sx Go.RowKit
/-- What the rounds of an iterator over choices keep. -/
def keepR {α : Type} (S2 : Nat → Prop) (R2 : World → Prop) (f : List Int → List α) (J : List α → (Nat → Prop) → World → Prop) (s : List (List Int)) (Z : Nat → Prop) (W : World) : Prop :=
  ∃ Z', (∀ k, Z k ↔ (Z' k ∨ S2 k)) ∧ R2 W ∧ J (s.flatMap f) Z' W
theorem keepR_steady {α : Type} {S2 : Nat → Prop} {R2 : World → Prop} {f : List Int → List α} {J : List α → (Nat → Prop) → World → Prop} (h2 : Steady S2 R2) (hJ : ∀ s Z, Steady Z (J s Z)) (s : List (List Int)) (Z : Nat → Prop) : Steady Z (keepR S2 R2 f J s Z) := by
  rintro w1 w2 a1 a2 ⟨Z', e1, e2, e3⟩
  exact ⟨Z', e1, h2 w1 w2 (fun k hk => a1 k ((e1 k).2 (.inr hk))) a2 e2, hJ _ _ w1 w2 (fun k hk => a1 k ((e1 k).2 (.inl hk))) a2 e3⟩
theorem rays_iter (L : List Cond) (lv : Value) (vs : Nat → Value) (m b1 b2 : Nat) (w : World) (S0 : Nat → Prop) (hc : ConsAt w lv L vs) (hS0 : Steady S0 (fun w => ConsAt w lv L vs)) (hlt0 : ∀ k, S0 k → k < w.heap.size) (hsb0 : ∀ k, sb lv k → S0 k)
    (h1 : w.heap[b1]? = some (.cells #[lv] 59 (0, 0))) (h2 : w.heap[b2]? = some (.cells #[I ((m + 1 : Nat) : Int)] 3 (0, 0))) (hL : L.length ≤ 8) (hn : m + 1 ≤ 8) (hrow : ∀ c ∈ L, c.1.length = m + 1) :
    Iter Try.prog (.func (.func 81) #[] #[Pt b1, Pt b2]) (fun k => (k = b1 ∨ k = b2) ∨ S0 k) RelL (raysM L (m + 1)) w := by
  refine ⟨81, #[Pt b1, Pt b2], rfl, fun args w => Try.call81 args w, ?_⟩
  intro l0 T J Z W hrd hsz hT hZ hR hJ
  rw [show (#[.func (.yield l0) #[] #[]] ++ #[Pt b1, Pt b2] : Array Value) = #[.func (.yield l0) #[] #[], Pt b1, Pt b2] from by simp]
  obtain ⟨AL, cL, hlv⟩ : ∃ AL cL, lv = .slice AL L.length cL := by obtain ⟨A, c, e, _⟩ := hc; exact ⟨A, c, e⟩
  subst hlv
  obtain ⟨S1, hS1⟩ : ∃ S1 : Nat → Prop, S1 = fun x => (x = b1 ∨ x = b2) ∨ S0 x := ⟨_, rfl⟩
  obtain ⟨R1, hR1⟩ : ∃ R1 : World → Prop, R1 = fun w => (w.heap[b1]? = some (.cells #[.slice AL L.length cL] 59 (0, 0)) ∧ w.heap[b2]? = some (.cells #[I ((m + 1 : Nat) : Int)] 3 (0, 0))) ∧ ConsAt w (.slice AL L.length cL) L vs := ⟨_, rfl⟩
  have hst1 : Steady S1 R1 := by rw [hS1, hR1]; exact ((Steady.heap (.inl (.inl rfl))).and (Steady.heap (.inl (.inr rfl)))).and (hS0.mono fun k hk => .inr hk)
  have hRW : R1 W := hst1 w W (fun k hk => hrd k (by rw [hS1] at hk; exact hk)) hsz (by rw [hR1]; exact ⟨⟨h1, h2⟩, hc⟩)
  have hlt1 : ∀ k, S1 k → k < W.heap.size := by
    rw [hS1]
    rintro k ((rfl | rfl) | hk)
    · have := lt_of_heap h1; omega
    · have := lt_of_heap h2; omega
    · have := hlt0 k hk; omega
  have hTW : ∀ k ∈ T, k < W.heap.size := fun k hk => (hT k hk).1
  have hTS : ∀ k ∈ T, ¬ S1 k := by rw [hS1]; exact fun k hk => (hT k hk).2
  refine enterRaw T [.c (.k (.func (.yield l0) #[] #[])), .c (.k (Pt b1)), .c (.k (Pt b2))] [(1, .say S1 R1), (2, .say Z (J [] Z))] Try.func81 rfl 102 Try.ntmps81 rfl rfl ⟨trivial, trivial, trivial, trivial⟩
    ⟨⟨hRW, hlt1, hst1⟩, ⟨fun h => h.elim, fun h => h.elim, trivial⟩, ⟨hJ, hZ, hR.1 _ _⟩, trivial, trivial⟩ fun ρ0 a0 hs0 => ?_
  have hb1 : ∀ w, R1 w → w.heap[b1]? = some (.cells #[.slice AL L.length cL] 59 (0, 0)) := fun w h => by rw [hR1] at h; exact h.1.1
  have hb2 : ∀ w, R1 w → w.heap[b2]? = some (.cells #[I ((m + 1 : Nat) : Int)] 3 (0, 0)) := fun w h => by rw [hR1] at h; exact h.1.2
  refine rawSeq rfl hs0 (G.reg tfine rfl trivial ⟨rfl, fun ρ1 a1 w1 hs1 => ?_⟩)
  refine rawSeq rfl hs1 (G.regC tfine rfl trivial ?_)
  refine GO.steps (Steps.loadK tfine 1 [.slice AL L.length cL] rfl rfl rfl rfl rfl hb1 rfl rfl) ?_
  refine GO.more tfine rfl trivial ?_
  refine GO.steps (Steps.loadK tfine 1 [I ((m + 1 : Nat) : Int)] rfl rfl rfl rfl rfl hb2 rfl rfl) ?_
  refine GO.more tfine rfl trivial ?_
  rw [show IntKind.i64.wrap (((m + 1 : Nat) : Int) - 1) = (m : Int) from by rw [IntWalk.i64_in _ (by omega)]; omega]
  refine GO.callSay 715 (boxV 94) boxS (boxR (I L.length) (I m) 3 3 W.heap.size) rfl rfl rfl rfl rfl (fun args w => Try.call75 args w) (fun ρ w hs hok => choices_any W.heap.size L.length m w hs.fr.size) fun g => ?_
  refine GO.nil ⟨rfl, fun ρ2 a2 w2 hs2 => ?_⟩
  have k1 := hs2.tmK (j := 1) (v := Pt b1) rfl
  have k2 := hs2.tmK (j := 2) (v := Pt b2) rfl
  have k19 := hs2.tmK (j := 19) (v := boxV 94 g) rfl
  obtain ⟨k3, p3, q3, r3⟩ := hs2.tmP (j := 3) (x := 3) (off := 0) rfl rfl
  obtain ⟨f1, _⟩ := hs2.mem.sayAt (X := 1) rfl
  obtain ⟨f2, f2'⟩ := hs2.mem.sayAt (X := 2) rfl
  obtain ⟨⟨⟨g1, g2⟩, g3, g4⟩, g5⟩ := hs2.mem.sayAt (X := 715) rfl
  have hfrW := hs2.mem.fr
  simp only [borT_snd] at hfrW
  have hdf := hs2.df
  have hsz2 := hs2.sz
  obtain ⟨p, hp⟩ : ∃ p, p = (ρ2 3).1 := ⟨_, rfl⟩
  rw [← hp] at k3 p3 q3 r3
  have p3 : w2.heap[p]? = some (.cells #[.func (.yield l0) #[] #[]] 67 (0, 0)) := p3
  have hpW : W.heap.size ≤ p := by
    rcases q3 with h | h
    · exact h
    · have := borT_mem h; omega
  obtain ⟨S2, hS2⟩ : ∃ S2 : Nat → Prop, S2 = fun k => S1 k ∨ k = p := ⟨_, rfl⟩
  obtain ⟨R2, hR2⟩ : ∃ R2 : World → Prop, R2 = fun w => R1 w ∧ w.heap[p]? = some (.cells #[.func (.yield l0) #[] #[]] 67 (0, 0)) := ⟨_, rfl⟩
  have hst2 : Steady S2 R2 := by rw [hS2, hR2]; exact (hst1.mono fun k hk => .inl hk).and (Steady.heap (.inr rfl))
  have hR12 : ∀ w, R2 w → R1 w := fun w h => by rw [hR2] at h; exact h.1
  have hTS2 : ∀ k ∈ T, ¬ S2 k := by
    rw [hS2]
    rintro k hk (h | rfl)
    · exact hTS k hk h
    · have := hTW _ hk; omega
  have hWw : W.heap.size ≤ w2.heap.size := hfrW.size
  have hS2w : ∀ k, S2 k → k < w2.heap.size := by
    rw [hS2]
    rintro k (h | rfl)
    · have := hlt1 k h; omega
    · exact r3
  refine wpIn_block ?_
  refine wp_range (gv := boxV 94 g) k19 (choices_iter L.length m g.1 g.2 w2 hL g1 g2) (fun k hk => (g5 k hk).1) T ?_ (keepR S2 R2 (raysOf L (m + 1)) J) (keepR_steady hst2 hR.1) (fun k => Z k ∨ S2 k) ?_ ⟨Z, fun _ => Iff.rfl, by rw [hR2]; exact ⟨f1, p3⟩, f2⟩ ?_ ?_
  · rintro k hk
    have := hTW k hk
    exact ⟨by omega, fun h => by rcases h with rfl | rfl <;> omega⟩
  · rintro k (hk | hk)
    · have := hZ k hk; omega
    · exact hS2w k hk
  · rintro l s x v Zk W1 hx hl hsame hlt ⟨Z', e1, e2, e3⟩ hZ1 ⟨A5, c5, rfl, hrd5, hc5⟩ hv
    obtain ⟨hlen, hin⟩ := choose_in hx
    have hsA : Sat ⟨W1, borT 1000 [], 102, some l, []⟩ (ρT 1000 []) (St.of [(1, .v (.c (.k (Pt b1)))), (2, .v (.c (.k (Pt b2)))), (3, .v (.c (.k (Pt p)))), (20, .v (.c (.k (.slice A5 x.length c5))))] []) { tmps := a2.tmps.setIfInBounds 20 (.slice A5 x.length c5), defers := [] } W1 :=
      Sat.say0 (Nat.le_refl _) rfl (by rw [Array.size_setIfInBounds]; exact hsz2) ⟨by rw [getD_setNe (show (1 : Nat) ≠ 20 by decide), k1]; rfl, by rw [getD_setNe (show (2 : Nat) ≠ 20 by decide), k2]; rfl, by rw [getD_setNe (show (3 : Nat) ≠ 20 by decide), k3]; rfl, by rw [getD_setEq (by rw [hsz2]; show 20 < 102; decide)]; rfl, trivial⟩ trivial
    refine ⟨fun a₁ w₁ => ∃ ρ, Sat ⟨W1, borT 1000 [], 102, some l, []⟩ ρ (St.of [(1, .v (.c (.k (Pt b1)))), (2, .v (.c (.k (Pt b2)))), (3, .v (.c (.k (Pt p)))), (4, .v (.c (.k (.slice A5 x.length c5))))] []) a₁ w₁, assign_wp rfl hsA rfl (G.reg tfine rfl trivial ⟨rfl, St.le_of rfl trivial ⟨rfl, rfl, rfl, rfl, trivial⟩⟩), ?_⟩
    rintro a₁ w₁ ⟨ρ', hs1'⟩
    have hfr1 : Fr W1 [] w₁ := hs1'.mem.fr
    refine ⟨hfr1, fun W3 hsm hsz3 hoth => ?_⟩
    have t1 := hs1'.tmK (j := 1) (v := Pt b1) rfl
    have t2 := hs1'.tmK (j := 2) (v := Pt b2) rfl
    have t3 := hs1'.tmK (j := 3) (v := Pt p) rfl
    have t4 := hs1'.tmK (j := 4) (v := .slice A5 x.length c5) rfl
    have hmv : ∀ {S : Nat → Prop} {R : World → Prop}, Steady S R → (∀ k, S k → k < W1.heap.size ∧ k ≠ l) → R W1 → R W3 := fun hst hS hR => hst W1 W3 (fun k hk => (hoth k (hS k hk).2).trans (hfr1.block k (hS k hk).1 (by simp))) (by rw [hsz3]; exact hfr1.size) hR
    have hZ' : ∀ k, Z' k → k < W1.heap.size ∧ k ≠ l := fun k hk => hZ1 k ((e1 k).2 (.inl hk))
    have hS2' : ∀ k, S2 k → k < W1.heap.size ∧ k ≠ l := fun k hk => hZ1 k ((e1 k).2 (.inr hk))
    have h13 : W1.heap.size ≤ W3.heap.size := by rw [hsz3]; exact hfr1.size
    have hv' : ∀ k, sb (.slice A5 x.length c5) k → k < W1.heap.size ∧ k ≠ l := fun k hk => ⟨(hv k hk).1, (hv k hk).2.2⟩
    have hsB : Sat ⟨W3, borT 1000 T, 102, some l, []⟩ (ρT 1000 T) (St.of [(1, .v (.c (.k (Pt b1)))), (2, .v (.c (.k (Pt b2)))), (3, .v (.c (.k (Pt p)))), (4, .v (.c (.k (.slice A5 x.length c5))))] [(1, .say S2 R2), (2, .say Z' (J (s.flatMap (raysOf L (m + 1))) Z')), (5, .say (sb (.slice A5 x.length c5)) (fun w => IntsAt w (.slice A5 x.length c5) x))]) a₁ W3 :=
      Sat.say0 (Nat.le_refl _) hs1'.df hs1'.sz ⟨by rw [t1]; rfl, by rw [t2]; rfl, by rw [t3]; rfl, by rw [t4]; rfl, trivial⟩
        ⟨⟨hmv hst2 hS2' e2, fun k hk => Nat.lt_of_lt_of_le (hS2' k hk).1 h13, hst2⟩, ⟨fun h => h.elim, fun h => h.elim, fun h => h.elim, fun h => h.elim, trivial⟩, ⟨hmv (hR.1 _ _) hZ' e3, fun k hk => Nat.lt_of_lt_of_le (hZ' k hk).1 h13, hR.1 _ _⟩, ⟨fun h => h.elim, fun h => h.elim, trivial⟩, ⟨hmv steady_ints hv' ⟨A5, c5, rfl, hrd5, hc5⟩, fun k hk => Nat.lt_of_lt_of_le (hv' k hk).1 h13, steady_ints⟩, trivial, trivial⟩
    have hWW3 : Same W W3 := ((hfrW.same.trans hsame).trans hfr1.same).trans hsm
    refine body_wp rfl hsB rfl (ray_round L AL A5 cL c5 vs m b1 b2 p l0 l W.heap.size W3 T J (s.flatMap (raysOf L (m + 1))) Z' S2 R2 x (fun w h => hb1 w (hR12 w h)) (fun w h => hb2 w (hR12 w h)) (fun w h => by rw [hR2] at h; exact h.2) (fun w h => by have := hR12 w h; rw [hR1] at this; exact this.2) (fun i hi => by obtain ⟨_, _, _, _, _, h⟩ := hc; obtain ⟨A', c', e, _⟩ := h i hi; exact ⟨A', c', e⟩)
      (fun k hk => by rw [hS2, hS1]; exact .inl (.inr (hsb0 k hk))) hTS2 (fun k hk hk' => (hv k hk').2.1 hk) (fun k hk => by have := hTW k hk; have := hWW3.size; omega) (hR.later hWW3) hWW3.size hL hn hrow hlen hin hx) ?_
    rintro e ρ st a w' hs ⟨rfl, Zn, m2, hZn, m1⟩
    obtain ⟨j1, j2, _⟩ := hs.mem.ok 2 _ m2
    obtain ⟨i1, i2, _⟩ := hs.mem.ok 1 _ m1
    have hfr3 := hs.mem.fr
    simp only [borT_snd] at hfr3
    refine ⟨rfl, hfr3, fun k => Zn k ∨ S2 k, ⟨Zn, fun _ => Iff.rfl, i1, ?_⟩, ?_⟩
    · have e : (s ++ [x]).flatMap (raysOf L (m + 1)) = s.flatMap (raysOf L (m + 1)) ++ raysOf L (m + 1) x := by simp
      rw [e]
      exact j1
    · rintro k (hk | hk)
      · refine ⟨?_, j2 k hk⟩
        rcases hZn k hk with h | h
        · exact .inl ((e1 k).2 (.inl h))
        · exact .inr (.inr (by omega))
      · exact ⟨.inl ((e1 k).2 (.inr hk)), i2 k hk⟩
  · rintro Zf W3 hfr ⟨Z', e1, e2, e3⟩ hZf hK
    refine marks_end (.inr rfl) (by rw [hdf]) hK (results_none (fn := Try.f81) rfl _ _ _) ⟨⟨_, rfl⟩, ?_, Z', ?_, ?_⟩
    · exact (hfrW.trans' hfr fun k _ h => h).putObj (.inl hWw) _
    · exact hR.1 _ _ W3 _ (fun k hk => World.putObj_heap_other (hZf k ((e1 k).2 (.inl hk))).2) (by simp) e3
    · intro k hk
      rw [World.putObj_size]
      exact (hZf k ((e1 k).2 (.inl hk))).1
end Go.Proofs.Ytafhnfcahhlanaa
