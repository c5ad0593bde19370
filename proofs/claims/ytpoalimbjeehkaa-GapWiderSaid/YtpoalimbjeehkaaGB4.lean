/- Chapter 38: Count, the code's side and the reference's. -/
import Derived.Test.YtpoalimbjeehkaaGB3
import Derived.WideKeyPair
import Derived.ChangeOld
import Derived.MapKept
/- Chapter 37: the reference's search for a partner, and its Size. -/
set_option linter.unusedVariables false
set_option linter.unusedSimpArgs false
set_option maxRecDepth 8000
set_option maxHeartbeats 1000000
namespace Go.Proofs.Ytpoalimbjeehkaa
open Go.Sx Go.RowKit Mt
def elP (f : Nat → Nat) (i : Nat) : List Value := [I ((f i : Int) - 1)]
def Sl (g m c : Nat) : Value := .slice (some ⟨g, 0, none⟩) m c
theorem up_elP (f : Nat → Nat) (a v i : Nat) {x : Int} (hx : x = (v : Int) - 1) : (bif Nat.beq i a then [Value.int .i64 x] else elP f i) = elP (fup f a v) i := by
  subst hx
  simp only [elP, fup]
  by_cases e : i = a
  · subst e; simp
  · simp [nbeq e, e]
def CP (m gp gs : Nat) (s : Ms) : List Bw := [⟨1900, gp, .arr 3 1 m (elP s.right) 0⟩, ⟨1901, gs, .arr 4 1 m (elB s.seen) 0⟩]
theorem better_nil (A : Option Addr) (c : Nat) (a : Int) (u v : Value) (w : World) : Calls Try.prog 71 #[.slice A 0 c, I a, u, v] w fun e w' => e = .returned (.bool false) ∧ Below w.heap.size w w' := by
  refine enterPlain tfine Try.func71 rfl 57 Try.ntmps71 [.c (.k (.slice A 0 c)), .c (.k (I a)), .c (.k u), .c (.k v)] [] rfl rfl trivial ⟨trivial, trivial, trivial, trivial, trivial⟩ ?_
  refine G.seqR tfine rfl trivial ?_
  refine G.seq (G.seqR tfine rfl trivial ?_)
  refine G.block (G.loop (fun z : Unit => St.of [(0, .v (.c (.k (.slice A 0 c)))), (9, .v (.c (.k (I 0))))] []) (fun _ => True) (fun _ => 0) () trivial (St.le_of rfl trivial ⟨rfl, rfl, trivial⟩) ?_)
  intro z _
  refine G.seq (G.seqR tfine rfl trivial ?_)
  refine G.cond_false rfl ?_
  refine G.exit ?_
  refine G.seqR tfine rfl trivial ?_
  exact G.ret (endK.ret rfl rfl)
theorem better_any (L : List Eg) (A : Option Addr) (c m : Nat) (hm : m ≤ 24) (hL : ∀ e ∈ L, e.1 < 24 ∧ e.2 < m) (hlen : L.length ≤ 4611686018427387904) : ∀ (f a : Nat) (s : Ms) (gp gs cp cs : Nat) (w : World), a < 24 → Bd s → uns 24 s.seen < f →
    RdRow w A L.length 2 (elG L) → (0 < L.length → ∀ x, A = some x → x.block ≠ gp) → (0 < L.length → ∀ x, A = some x → x.block ≠ gs) → gp ≠ gs → OwnAt w gp 3 m 1 (elP s.right) 0 → OwnAt w gs 4 m 1 (elB s.seen) 0 →
    Calls Try.prog 71 #[.slice A L.length c, I a, Sl gp m cp, Sl gs m cs] w fun e w' => e = .returned (.bool (find L f a s).1) ∧ Fr w [gp, gs] w' ∧ OwnAt w' gp 3 m 1 (elP (find L f a s).2.right) 0 ∧ OwnAt w' gs 4 m 1 (elB (find L f a s).2.seen) 0 := by
  have hL24 : ∀ e ∈ L, e.1 < 24 ∧ e.2 < 24 := fun e he => by have := hL e he; omega
  intro f
  induction f with
  | zero => intro a s gp gs cp cs w _ _ h; omega
  | succ f ih =>
  intro a s gp gs cp cs w ha hbd hu hrow fp fs hne hop hos
  refine (enterBw (v := .bool (find L (f + 1) a s).1) tfine (CP m gp gs s) (CP m gp gs (find L (f + 1) a s).2) Try.func71 rfl 57 Try.ntmps71 [.c (.inp 1000 A L.length c), .c (.k (I a)), .c (.slc 1900 0 1 m cp), .c (.slc 1901 0 1 m cs)] [⟨1000, A, 2, L.length, elG L⟩]
    ⟨hrow, trivial⟩ ⟨(show (1000 : Nat) < 1900 by decide), trivial⟩ ⟨⟨⟨nx rfl, hne⟩, trivial⟩, trivial, trivial⟩ ⟨⟨Nat.le_of_ble_eq_true rfl, ⟨fp, trivial⟩, trivial, hop⟩, ⟨Nat.le_of_ble_eq_true rfl, ⟨fs, trivial⟩, trivial, hos⟩, trivial⟩ rfl rfl ⟨.inl ⟨rfl, rfl, rfl⟩, trivial, .inl rfl, .inr (.inl rfl), trivial⟩ ?_ ⟨trivial, trivial, trivial⟩ ?_).mono ?_
  · intro b hb
    simp only [CP, List.mem_cons, List.not_mem_nil, or_false] at hb
    rcases hb with rfl | rfl
    · exact ⟨_, List.mem_cons_self, rfl, rfl⟩
    · exact ⟨_, List.mem_cons_of_mem _ List.mem_cons_self, rfl, rfl⟩
  · generalize hbb : bwB (CP m gp gs s) = bor
    refine G.seqR tfine rfl trivial ?_
    refine G.seq (G.seqR tfine rfl trivial ?_)
    refine G.block (G.loop (fun z : Nat × Ms => St.of [(0, .v (.c (.inp 1000 A L.length c))), (1, .v (.c (.k (I a)))), (2, .v (.c (.slc 1900 0 1 m cp))), (3, .v (.c (.slc 1901 0 1 m cs))), (9, .v (.c (.k (I z.1))))]
        [(1900, .arr 3 1 m (elP z.2.right) 0), (1901, .arr 4 1 m (elB z.2.seen) 0), (1000, .ro 2 L.length (elG L))])
      (fun z => z.1 ≤ L.length ∧ tryE (find L f) a L s = tryE (find L f) a (L.drop z.1) z.2 ∧ uns 24 z.2.seen ≤ uns 24 s.seen ∧ Bd z.2) (fun z => L.length - z.1) (0, s) ⟨Nat.zero_le _, rfl, Nat.le_refl _, hbd⟩
      (St.le_of rfl ⟨⟨_, rfl, Blk.le_refl _⟩, ⟨_, rfl, Blk.le_refl _⟩, ⟨_, rfl, Blk.le_refl _⟩, trivial⟩ ⟨rfl, rfl, rfl, rfl, rfl, trivial⟩) ?_)
    rintro ⟨k, sk⟩ ⟨hk, he, huk, hbk⟩
    dsimp only at hk he huk hbk ⊢
    refine G.seq (G.seqR tfine rfl trivial ?_)
    refine G.cond (b := decide ((k : Int) < (L.length : Int))) rfl (fun h => ?_) (fun h => ?_)
    rotate_left
    · have h := of_decide_eq_false h
      have : k = L.length := by omega
      subst this
      refine G.exit ?_
      refine G.seqR tfine rfl trivial ?_
      rw [List.drop_length] at he
      refine G.ret (endBw.ret rfl ?_ ?_)
      · rw [find, he]
        rfl
      · rw [find, he]
        exact ⟨⟨_, _, rfl, fun i hi => rfl⟩, ⟨_, _, rfl, fun i hi => rfl⟩, trivial⟩
    have h := of_decide_eq_true h
    have hlt : k < L.length := by omega
    obtain ⟨x, hx⟩ : ∃ x, x = (L.getD k (0, 0)).1 := ⟨_, rfl⟩
    obtain ⟨y, hy⟩ : ∃ y, y = (L.getD k (0, 0)).2 := ⟨_, rfl⟩
    have hxy : (x, y) = L.getD k (0, 0) := by rw [hx, hy]
    have hmem : (x, y) ∈ L := by rw [hxy, List.getD_eq_getElem?_getD, List.getElem?_eq_getElem hlt]; exact List.getElem_mem hlt
    have hd : L.drop k = (x, y) :: L.drop (k + 1) := by
      rw [hxy, List.getD_eq_getElem?_getD, List.getElem?_eq_getElem hlt, Option.getD_some, List.drop_eq_getElem_cons hlt]
    have hx24 : x < 24 := (hL _ hmem).1
    have hym : y < m := (hL _ hmem).2
    have hy24 : y < 24 := by omega
    rw [hd, tryE] at he
    refine G.skip ?_
    refine G.seq (G.block ?_)
    refine G.seqR tfine rfl ⟨by simpa using hlt, by omega, by omega, trivial⟩ ?_
    rw [Int.toNat_natCast, ← hy]
    refine G.seq (G.seqR tfine rfl ?_ ?_)
    · simp [AllP, condB]
      omega
    simp only [Int.toNat_natCast, Nat.zero_add]
    rw [← hx]
    refine G.cond (b := ((x : Int) != (a : Int)) || sk.seen y) rfl (fun h2 => ?_) (fun h2 => ?_)
    · refine G.exit ?_
      refine G.reg tfine rfl trivial ?_
      rw [IntWalk.i64_in _ (by omega)]
      have h2' : x ≠ a ∨ sk.seen y = true := by
        simp only [Bool.or_eq_true, bne_iff_ne, ne_eq] at h2
        rcases h2 with h2 | h2
        · exact .inl (by omega)
        · exact .inr h2
      rw [if_pos h2'] at he
      exact ⟨(k + 1, sk), ⟨by simp only; omega, he, huk, hbk⟩, (by show L.length - (k + 1) < L.length - k; omega), St.le_of rfl ⟨⟨_, rfl, Blk.le_refl _⟩, ⟨_, rfl, Blk.le_refl _⟩, ⟨_, rfl, Blk.le_refl _⟩, trivial⟩ ⟨rfl, rfl, rfl, rfl, by simp [up, I], trivial⟩⟩
    have h2' : ¬ (x ≠ a ∨ sk.seen y = true) := by
      simp only [Bool.or_eq_false_iff, bne_eq_false_iff_eq] at h2
      simp [h2.2]
      omega
    rw [if_neg h2'] at he
    have hsy : sk.seen y = false := by
      cases e : sk.seen y with
      | false => rfl
      | true => exact absurd (.inr e) h2'
    have hus := uns_see hy24 hsy
    refine G.skip ?_
    refine G.seqR tfine rfl ?_ ?_
    · simp [AllP]
      omega
    simp only [Int.toNat_natCast, Nat.zero_add]
    have hsee : ∀ i, i < m → (bif Nat.beq i y then [Value.bool true] else elB sk.seen i) = elB (sk.see y).seen i := by
      intro i _
      simp only [elB, Ms.see, fup]
      by_cases e : i = y
      · subst e; simp
      · simp [nbeq e, e]
    refine G.seqC tfine rfl ?_ ?_
    · simp [AllP, condB]
      omega
    simp only [Int.toNat_natCast, Nat.zero_add]
    by_cases hr0 : sk.right y = 0
    · rw [if_pos hr0] at he
      refine GO.steps (Steps.shut (C := ⟨_, _⟩) (cb := condB false (decide ((sk.right y : Int) - 1 < 0))) (.c (.k (.bool false))) (by simp [condB, hr0]) rfl rfl rfl) ?_
      refine GO.fin tfine rfl ?_ ?_
      · simp [AllP, condB]
      refine G.cond (b := decide ((sk.right y : Int) - 1 < 0) || false) rfl (fun h3 => ?_) (fun h3 => ?_)
      rotate_left
      · simp [hr0] at h3
      refine G.seqR tfine rfl ?_ ?_
      · simp [AllP]
        omega
      simp only [Int.toNat_natCast, Nat.zero_add]
      refine G.seqR tfine rfl trivial ?_
      refine G.ret (endBw.ret rfl ?_ ?_)
      · rw [find, he]
      · rw [find, he]
        exact ⟨⟨_, _, rfl, fun i hi => up_elP _ _ _ _ (by omega)⟩, ⟨_, _, rfl, hsee⟩, trivial⟩
    rw [if_neg hr0] at he
    obtain ⟨⟨r, s2⟩, hfr⟩ : ∃ q, q = find L f (sk.right y - 1) (sk.see y) := ⟨_, rfl⟩
    rw [← hfr] at he
    have hr24 := hbk.r y
    have hbs : Bd (sk.see y) := ⟨hbk.l, hbk.r⟩
    have hb2 := find_bd hL24 f (sk.right y - 1) (sk.see y) (by omega) hbs
    rw [← hfr] at hb2
    have hu2 : uns 24 s2.seen ≤ uns 24 s.seen := by
      have h1 : uns 24 s2.seen ≤ uns 24 (sk.see y).seen := uns_mono fun z hz => by
        have := find_seen L f (sk.right y - 1) (sk.see y) z hz
        rwa [← hfr] at this
      have h2 : uns 24 (sk.see y).seen < uns 24 sk.seen := hus
      omega
    refine GO.steps (Steps.callBwT (C := ⟨_, _⟩) (cb := condB false (decide ((sk.right y : Int) - 1 < 0))) (v := .bool r) [⟨1900, .arr 3 1 m (elP s2.right) 0⟩, ⟨1901, .arr 4 1 m (elB s2.seen) 0⟩] (by simp [condB]; omega) rfl rfl rfl (by first | exact trivial | exact ⟨id, trivial⟩ | exact ⟨id, id, trivial⟩ | exact ⟨id, id, id, trivial⟩ | exact ⟨id, id, id, id, trivial⟩) rfl rfl (fun args w => Try.call71 args w) ⟨⟨_, rfl, trivial⟩, ⟨_, rfl, trivial⟩, trivial⟩ trivial rfl (fun m2 hle ρ w2 hs hok hok2 => ?_)) ?_
    · have hb : ∀ x g, (x, g) ∈ bwB (CP m gp gs s) → ρ x = (g, 0) := fun x g h => (hs.bo (x, g) (by rw [← hbb]; exact h)).1
      have b0 := hb 1900 gp (by simp [bwB, CP])
      have b1 := hb 1901 gs (by simp [bwB, CP])
      have k0 := (hs.ok 1900 _ (hle.at rfl)).2.2
      have k1 := (hs.ok 1901 _ (hle.at rfl)).2.2
      have hin : AC.ok ρ m2 (.inp 1000 A L.length c) := hok _ List.mem_cons_self
      have f0 := hs.apart (x := 1900) (hle.at rfl) trivial (q := 1000) (hle.at rfl) hin (Nat.le_refl _) (nx rfl)
      have f1 := hs.apart (x := 1901) (hle.at rfl) trivial (q := 1000) (hle.at rfl) hin (Nat.le_refl _) (nx rfl)
      rw [b0] at k0 f0
      rw [b1] at k1 f1
      have := ih (sk.right y - 1) (sk.see y) gp gs cp cs w2 (by omega) hbs (by show uns 24 (fup sk.seen y true) < f; omega) (hs.rd (cap := c) (hle.at rfl) hin (Nat.le_refl _)) f0 f1 hne k0 (OwnAt.congr k1 hsee)
      rw [← hfr] at this
      have eargs : (([AV.c (.inp 1000 A L.length c), AV.c (AC.k (I ((sk.right y : Int) - 1))), AV.c (.slc 1900 0 1 m cp), AV.c (.slc 1901 0 1 m cs)].map (AV.conc ρ)) ++ (([] : List Cap).map (Cap.conc ρ))).toArray = #[.slice A L.length c, I ((sk.right y - 1 : Nat) : Int), Sl gp m cp, Sl gs m cs] := by
        have : ((sk.right y - 1 : Nat) : Int) = (sk.right y : Int) - 1 := by omega
        rw [this]
        simp [AV.conc, AC.conc, b0, b1, Sl]
      rw [← eargs] at this
      refine this.mono ?_
      rintro e w' ⟨rfl, hf, o1, o2⟩
      refine ⟨rfl, ?_, ?_, ?_, trivial⟩
      · simp only [List.map_cons, List.map_nil, b0, b1]; exact hf
      · show OwnAt w' (ρ 1900).1 _ _ _ _ _
        rw [b0]; exact o1
      · show OwnAt w' (ρ 1901).1 _ _ _ _ _
        rw [b1]; exact o2
    refine GO.fin tfine rfl ?_ ?_
    · simp [AllP, condB]
    refine G.cond (b := decide ((sk.right y : Int) - 1 < 0) || r) rfl (fun h3 => ?_) (fun h3 => ?_)
    · have hrt : r = true := by
        rw [Bool.or_eq_true] at h3
        rcases h3 with h3 | h3
        · have := of_decide_eq_true h3; omega
        · exact h3
      subst hrt
      refine G.seqR tfine rfl ?_ ?_
      · simp [AllP]
        omega
      simp only [Int.toNat_natCast, Nat.zero_add]
      refine G.seqR tfine rfl trivial ?_
      refine G.ret (endBw.ret rfl ?_ ?_)
      · rw [find, he]
      · rw [find, he]
        exact ⟨⟨_, _, rfl, fun i hi => up_elP _ _ _ _ (by omega)⟩, ⟨_, _, rfl, fun i hi => rfl⟩, trivial⟩
    · have hrt : r = false := by
        cases r with
        | false => rfl
        | true => simp at h3
      subst hrt
      refine G.skip ?_
      refine G.reg tfine rfl trivial ?_
      rw [IntWalk.i64_in ((k : Int) + 1) (by omega)]
      exact ⟨(k + 1, s2), ⟨by simp only; omega, he, hu2, hb2⟩, (by show L.length - (k + 1) < L.length - k; omega), St.le_of rfl ⟨⟨_, rfl, Blk.le_refl _⟩, ⟨_, rfl, Blk.le_refl _⟩, ⟨_, rfl, Blk.le_refl _⟩, trivial⟩ ⟨rfl, rfl, rfl, rfl, by simp [up, I], trivial⟩⟩
  · rintro e w' ⟨rfl, hf, h1, h2, _⟩
    exact ⟨rfl, hf, h1, h2⟩
theorem apB : ApT Try.prog 94 4 1 1 (.bool false) := ⟨by kernel_rfl, by kernel_rfl, rfl, by decide⟩
theorem matched_succ (n : Nat) (L : List Eg) : matched (n + 1) L = stage L (matched n L) n := by
  unfold matched
  rw [List.range_succ, List.foldl_append]
  rfl
theorem partners_any (L : List Eg) (A : Option Addr) (c n m : Nat) (hn : n ≤ 24) (hm : m ≤ 24) (hL : ∀ e ∈ L, e.1 < 24 ∧ e.2 < m) (hlen : L.length ≤ 4611686018427387904) (w : World) (hl : RdRow w A L.length 2 (elG L)) :
    Calls Try.prog 64 #[I n, I m, .slice A L.length c] w fun e w' => Ans w w' [.c (.r m 1 (elP (matched n L).right))] e ∧ Below w.heap.size w w' := by
  have hL24 : ∀ e ∈ L, e.1 < 24 ∧ e.2 < 24 := fun e he => by have := hL e he; omega
  refine enterAns tfine _ Try.func64 rfl 31 Try.ntmps64 [.c (.k (I n)), .c (.k (I m)), .c (.inp 1000 A L.length c)] [⟨1000, A, 2, L.length, elG L⟩] rfl rfl ⟨hl, trivial⟩ ⟨trivial, trivial, .inl ⟨rfl, rfl, rfl⟩, trivial⟩ ?_
  refine G.seqR tfine rfl trivial ?_
  refine G.seqC tfine rfl trivial ?_
  refine GO.emptySliceS tfine rfl rfl rfl rfl rfl rfl rfl fun A0 hA0 => ?_
  refine GO.fin tfine rfl trivial ?_
  refine G.newNil 18 1 (elP fun _ => 0) rfl ?_
  refine G.seq (G.seqR tfine rfl trivial ?_)
  refine G.block (G.loop (fun z : Nat × Nat => St.of [(0, .v (.c (.k (I n)))), (1, .v (.c (.k (I m)))), (2, .v (.c (.inp 1000 A L.length c))), (7, .v (.c (accVA A0 18 1 z.1 z.2))), (8, .v (.c (.k (I z.1))))] [(18, accB 3 1 z.1 z.2 (elP fun _ => 0)), (1000, .ro 2 L.length (elG L))])
    (fun z => z.1 ≤ m ∧ z.1 ≤ z.2) (fun z => m - z.1) (0, 0) ⟨Nat.zero_le _, Nat.le_refl _⟩ (St.le_of rfl ⟨⟨_, rfl, Blk.le_refl _⟩, ⟨_, rfl, Blk.le_refl _⟩, trivial⟩ ⟨rfl, rfl, rfl, rfl, rfl, trivial⟩) ?_)
  rintro ⟨j, cp⟩ ⟨hj, hcp⟩
  dsimp only at hj hcp ⊢
  refine G.seq (G.seqR tfine rfl trivial ?_)
  refine G.cond (b := decide ((j : Int) < (m : Int))) rfl (fun h => ?_) (fun h => ?_)
  · have h := of_decide_eq_true h
    refine G.skip ?_
    refine G.seq (G.block ?_)
    refine G.region_lit ?_
    refine GO.moveAny tfine rfl (.inl rfl) rfl rfl rfl ?_
    refine GO.more tfine rfl trivial ?_
    refine GO.appendAccAB (n := j) (c := cp) (el := elP fun _ => 0) [I (-1)] [(0, .v (.c (.k (I n)))), (1, .v (.c (.k (I m)))), (2, .v (.c (.inp 1000 A L.length c))), (8, .v (.c (.k (I j))))] [(1000, .ro 2 L.length (elG L))] apT35 rfl rfl rfl rfl rfl rfl rfl rfl rfl rfl (fun u hu => by simp at hu; subst hu; rfl)
      (St.le_of rfl ⟨⟨_, rfl, Blk.le_refl _⟩, trivial⟩ ⟨rfl, rfl, rfl, rfl, trivial⟩) (subM.fr ⟨rfl, nx rfl, trivial⟩) (fun k hk => rfl) (by unfold maxLen; omega) (by omega) fun c' hc' => ?_
    refine GO.fin tfine rfl trivial ?_
    refine G.reg tfine rfl trivial ?_
    rw [IntWalk.i64_in ((j : Int) + 1) (by omega)]
    refine ⟨(j + 1, c'), ⟨by simp only; omega, hc'⟩, (by show m - (j + 1) < m - j; omega), St.le_of rfl ⟨⟨_, rfl, rfl, rfl, Nat.le_refl _, fun k hk => ?_, Nat.le_refl _⟩, ⟨_, rfl, Blk.le_refl _⟩, trivial⟩ ⟨rfl, rfl, rfl, rfl, by simp [up, I], trivial⟩⟩
    have hk' : k < j + 1 := hk
    by_cases e : k = j
    · subst e
      rw [elN_eq]
      rfl
    · rw [elN_lt (by omega)]
  have h := of_decide_eq_false h
  have : j = m := by omega
  subst this
  refine G.exit ?_
  refine G.seq (G.seqR tfine rfl trivial ?_)
  rcases j with _ | j
  · have hnil : L = [] := by
      cases L with
      | nil => rfl
      | cons e r => have := (hL e List.mem_cons_self).2; omega
    subst hnil
    refine G.block (G.loop (fun z : Nat => St.of [(0, .v (.c (.k (I n)))), (1, .v (.c (.k (I (0 : Nat))))), (2, .v (.c (.inp 1000 A 0 c))), (7, .v (.c (.k (.slice A0 0 0)))), (9, .v (.c (.k (I z))))] [(1000, .ro 2 0 (elG []))])
      (fun z => z ≤ n) (fun z => n - z) 0 (Nat.zero_le _) (St.le_of rfl ⟨⟨_, rfl, Blk.le_refl _⟩, trivial⟩ ⟨rfl, rfl, rfl, rfl, rfl, trivial⟩) ?_)
    intro k hk
    refine G.seq (G.seqR tfine rfl trivial ?_)
    refine G.cond (b := decide ((k : Int) < (n : Int))) rfl (fun h2 => ?_) (fun h2 => ?_)
    rotate_left
    · refine G.exit ?_
      refine G.seqR tfine rfl trivial ?_
      exact G.ret (endAns.ret ⟨⟨_, rfl, rfl, rfl, hA0⟩, trivial⟩)
    have h2 := of_decide_eq_true h2
    refine G.skip ?_
    refine G.seq (G.block ?_)
    refine G.regC tfine rfl trivial ?_
    refine GO.make1 0 apB rfl rfl rfl rfl rfl rfl rfl rfl rfl (by decide) (by decide) (fun _ A1 hA1 => ?_) (fun h0 => absurd h0 (Nat.lt_irrefl 0))
    refine GO.callPlain (v := .bool false) rfl rfl rfl rfl (fun args w => Try.call71 args w) (fun ρ w hs hok => better_nil A c k _ _ w) ?_
    refine GO.nil ?_
    refine G.reg tfine rfl trivial ?_
    rw [IntWalk.i64_in ((k : Int) + 1) (by omega)]
    exact ⟨k + 1, (by omega), (by show n - (k + 1) < n - k; omega), St.le_of rfl ⟨⟨_, rfl, Blk.le_refl _⟩, trivial⟩ ⟨rfl, rfl, rfl, rfl, by simp [up, I], trivial⟩⟩
  · refine G.block (G.loop (fun z : Nat => St.of [(0, .v (.c (.k (I n)))), (1, .v (.c (.k (I (j + 1 : Nat))))), (2, .v (.c (.inp 1000 A L.length c))), (7, .v (.c (.slc 18 0 1 (j + 1) cp))), (9, .v (.c (.k (I z))))] [(18, .arr 3 1 (j + 1) (elP (matched z L).right) 0), (1000, .ro 2 L.length (elG L))])
      (fun z => z ≤ n) (fun z => n - z) 0 (Nat.zero_le _) (St.le_of rfl ⟨⟨_, rfl, rfl, rfl, Nat.le_refl _, fun i hi => rfl, Nat.le_add_right _ _⟩, ⟨_, rfl, Blk.le_refl _⟩, trivial⟩ ⟨rfl, rfl, rfl, rfl, rfl, trivial⟩) ?_)
    intro k hk
    refine G.seq (G.seqR tfine rfl trivial ?_)
    refine G.cond (b := decide ((k : Int) < (n : Int))) rfl (fun h2 => ?_) (fun h2 => ?_)
    rotate_left
    · have h2 := of_decide_eq_false h2
      have : k = n := by omega
      subst this
      refine G.exit ?_
      refine G.seqR tfine rfl trivial ?_
      exact G.ret (endAns.ret ⟨⟨_, rfl, hcp, rfl, rfl, rfl, by omega, fun i hi => by rw [Nat.zero_add]⟩, trivial⟩)
    have h2 := of_decide_eq_true h2
    have hbk := matched_bd hL24 k (by omega)
    obtain ⟨s0, hs0⟩ : ∃ s0 : Ms, s0 = ⟨(matched k L).left, (matched k L).right, fun _ => false⟩ := ⟨_, rfl⟩
    have hnext : matched (k + 1) L = (find L 25 k s0).2 := by rw [matched_succ, hs0]; rfl
    refine G.skip ?_
    refine G.seq (G.block ?_)
    refine G.regC tfine rfl trivial ?_
    refine GO.make1 (j + 1) apB rfl rfl rfl rfl rfl rfl rfl rfl rfl (by unfold maxLen; omega) (by omega) (fun h0 => by omega) (fun _ c2 hc2 => ?_)
    refine GO.callBw (v := .bool (find L 25 k s0).1) [⟨18, .arr 3 1 (j + 1) (elP (find L 25 k s0).2.right) 0⟩, ⟨28, .arr 4 1 (j + 1) (elB (find L 25 k s0).2.seen) 0⟩] rfl rfl rfl rfl (fun args w => Try.call71 args w) ⟨⟨_, rfl, trivial⟩, ⟨_, rfl, trivial⟩, trivial⟩ trivial (fun ρ w2 hs hok hok2 => ?_) ?_
    · have k0 := hs.ok 18 _ rfl
      have k1 := hs.ok 28 _ rfl
      have hin : AC.ok ρ _ (.inp 1000 A L.length c) := hok _ List.mem_cons_self
      have f0 := hs.apart (x := 18) rfl trivial (q := 1000) rfl hin (Nat.le_refl _) (nx rfl)
      have f1 := hs.apart (x := 28) rfl trivial (q := 1000) rfl hin (Nat.le_refl _) (nx rfl)
      have hne := hs.ne 18 28 _ _ rfl rfl trivial trivial (nx rfl)
      have hos : OwnAt w2 (ρ 28).1 4 (j + 1) 1 (elB s0.seen) 0 := by
        obtain ⟨a, h1, h3, h4⟩ := k1.2.2
        exact ⟨a, h1, by omega, fun i hi => by rw [hs0]; exact h4 i hi⟩
      have := better_any L A c (j + 1) hm hL hlen 25 k s0 (ρ 18).1 (ρ 28).1 cp c2 w2 (by omega) (by rw [hs0]; exact ⟨hbk.l, hbk.r⟩) (by have := uns_le 24 s0.seen; omega) (hs.rd (cap := c) rfl hin (Nat.le_refl _)) f0 f1 hne (by rw [hs0]; exact k0.2.2) hos
      have e0 := k0.1
      have e1 := k1.1
      have eargs : (([AV.c (.inp 1000 A L.length c), AV.c (AC.k (I k)), AV.c (.slc 18 0 1 (j + 1) cp), AV.c (.slc 28 0 1 (j + 1) c2)].map (AV.conc ρ)) ++ (([] : List Cap).map (Cap.conc ρ))).toArray = #[.slice A L.length c, I k, Sl (ρ 18).1 (j + 1) cp, Sl (ρ 28).1 (j + 1) c2] := by
        simp [AV.conc, AC.conc, e0, e1, Sl]
      rw [← eargs] at this
      refine this.mono ?_
      rintro e w' ⟨rfl, hf, o1, o2⟩
      exact ⟨rfl, hf, o1, o2, trivial⟩
    refine GO.nil ?_
    refine G.reg tfine rfl trivial ?_
    rw [IntWalk.i64_in ((k : Int) + 1) (by omega)]
    refine ⟨k + 1, (by omega), (by show n - (k + 1) < n - k; omega), St.le_of rfl ⟨⟨_, rfl, ?_⟩, ⟨_, rfl, Blk.le_refl _⟩, trivial⟩ ⟨rfl, rfl, rfl, rfl, by simp [up, I], trivial⟩⟩
    rw [hnext]
    exact Blk.le_refl _
theorem refSize_any (n m : Int) (A : Option Addr) (c : Nat) (l : List EI) (w : World) (hl : RdRow w A l.length 2 (elE l)) (hm : l.length ≤ 1000000) :
    Calls Try.prog 50 #[I n, I m, .slice A l.length c] w fun e w' => e = .returned (.tuple #[I (sizeA n m l).1, I (sizeA n m l).2]) ∧ Below w.heap.size w w' := by
  refine enterPlain tfine Try.func50 rfl 33 Try.ntmps50 [.c (.k (I n)), .c (.k (I m)), .c (.inp 1000 A l.length c)] [⟨1000, A, 2, l.length, elE l⟩] rfl rfl ⟨hl, trivial⟩ ⟨trivial, trivial, .inl ⟨rfl, rfl, rfl⟩, trivial⟩ ?_
  refine G.seqR tfine rfl trivial ?_
  refine G.seq ?_
  refine G.seqC tfine rfl trivial ?_
  refine GO.callPlain (v := I (checkM n m l)) rfl rfl rfl rfl (fun args w => Try.call63 args w) (fun ρ w hs hok => refCheck_any n m A c l w (hs.row (cap := c) rfl (hok _ (List.mem_cons_of_mem _ (List.mem_cons_of_mem _ List.mem_cons_self)))) hm) ?_
  refine GO.fin tfine rfl trivial ?_
  refine G.cond (b := (checkM n m l != 0)) rfl (fun h => ?_) (fun h => ?_)
  · refine G.seqR tfine rfl trivial ?_
    refine G.ret (endK.ret rfl ?_)
    rw [sizeA, if_pos h]
  have h0 : checkM n m l = 0 := by simpa using h
  have ok := check_ok h0
  obtain ⟨L, hLe⟩ : ∃ L, L = toEg l := ⟨_, rfl⟩
  obtain ⟨N, hN⟩ : ∃ N, N = n.toNat := ⟨_, rfl⟩
  obtain ⟨M, hM⟩ : ∃ M, M = m.toNat := ⟨_, rfl⟩
  rw [← hLe, ← hN, ← hM] at ok
  obtain ⟨r1, r2⟩ := ok.row hl
  have hother : cnt M (fun y => decide ((matched N L).right y ≠ 0)) = sizeM (msOf n l) := by
    rw [ok.best.other, msOf, ← hLe, ← hN]
  have hans : sizeA n m l = ((cnt M (fun y => decide ((matched N L).right y ≠ 0)) : Int), 0) := by rw [sizeA, if_neg (fne h), hother]
  rw [hans]
  obtain ⟨f, hf⟩ : ∃ f, f = (matched N L).right := ⟨_, rfl⟩
  rw [← hf]
  have hM24 := ok.hM
  refine G.skip ?_
  refine G.seqC tfine rfl trivial ?_
  refine GO.callAns [.c (.r M 1 (elP f))] [800] rfl rfl rfl rfl ⟨rfl, rfl, rfl, trivial⟩ (fun args w => Try.call64 args w) (fun ρ w hs hok => ?_) ?_
  · have hr := hs.row (cap := c) rfl (hok _ (List.mem_cons_of_mem _ (List.mem_cons_of_mem _ List.mem_cons_self)))
    have := partners_any L A c N M ok.hN ok.hM (fun e he => by have := ok.mem e he; have := ok.hN; omega) (by have := ok.len; omega) w (ok.row hr).1
    rw [← r2, ← ok.hn, ← ok.hm, ← hf] at this
    exact this
  refine GO.fin tfine rfl trivial ?_
  refine G.seq (G.seqR tfine rfl trivial ?_)
  refine G.block (G.loop (fun z : Nat => St.of [(1, .v (.c (.k (I m)))), (8, .v (.c (.row 800 M w.heap.size))), (9, .v (.c (.k (I (cnt z fun y => decide (f y ≠ 0)))))), (10, .v (.c (.k (I z))))] [(800, .ro 1 M (elP f)), (850, .ro 0 0 fun _ => [])])
    (fun z => z ≤ M) (fun z => M - z) 0 (Nat.zero_le _) (St.le_of rfl ⟨⟨_, rfl, Blk.le_refl _⟩, ⟨_, rfl, Blk.le_refl _⟩, trivial⟩ ⟨rfl, rfl, rfl, rfl, trivial⟩) ?_)
  intro k hk
  have hmM := ok.hm
  refine G.seq (G.seqR tfine rfl trivial ?_)
  refine G.cond (b := decide ((k : Int) < m)) rfl (fun h2 => ?_) (fun h2 => ?_)
  rotate_left
  · have h2 := of_decide_eq_false h2
    have : k = M := by omega
    subst this
    refine G.exit ?_
    refine G.seqR tfine rfl trivial ?_
    exact G.ret (endK.ret rfl rfl)
  have h2 := of_decide_eq_true h2
  have hc := cnt_succ k fun y => decide (f y ≠ 0)
  have hle := cnt_le k fun y => decide (f y ≠ 0)
  refine G.skip ?_
  refine G.seq (G.block ?_)
  refine G.seqR tfine rfl ?_ ?_
  · simp [AllP]
    omega
  simp only [Int.toNat_natCast]
  refine G.cond (b := decide ((f k : Int) - 1 ≥ 0)) rfl (fun h3 => ?_) (fun h3 => ?_)
  · have h3 := of_decide_eq_true h3
    refine G.reg tfine rfl trivial ?_
    refine G.reg tfine rfl trivial ?_
    rw [IntWalk.i64_in ((k : Int) + 1) (by omega), IntWalk.i64_in (_ + 1) (by omega)]
    have e : ((cnt (k + 1) fun y => decide (f y ≠ 0) : Nat) : Int) = ((cnt k fun y => decide (f y ≠ 0) : Nat) : Int) + 1 := by
      rw [hc, if_pos (by simp; omega)]; rfl
    exact ⟨k + 1, (by omega), (by show M - (k + 1) < M - k; omega), St.le_of rfl ⟨⟨_, rfl, Blk.le_refl _⟩, ⟨_, rfl, Blk.le_refl _⟩, trivial⟩ ⟨rfl, rfl, by rw [e]; rfl, by simp [up, I], trivial⟩⟩
  · have h3 := of_decide_eq_false h3
    refine G.skip ?_
    refine G.reg tfine rfl trivial ?_
    rw [IntWalk.i64_in ((k : Int) + 1) (by omega)]
    exact ⟨k + 1, (by omega), (by show M - (k + 1) < M - k; omega), St.le_of rfl ⟨⟨_, rfl, Blk.le_refl _⟩, ⟨_, rfl, Blk.le_refl _⟩, trivial⟩ ⟨rfl, rfl, by rw [hc, if_neg (by simp; omega)]; rfl, by simp [up, I], trivial⟩⟩
end Go.Proofs.Ytpoalimbjeehkaa
/- Chapter 37: the law MatchAlone. -/
set_option linter.unusedVariables false
set_option linter.unusedSimpArgs false
set_option maxRecDepth 8000
set_option maxHeartbeats 1000000
namespace Go.Proofs.Ytpoalimbjeehkaa
open Go.Sx Go.RowKit Mt
/-! ### The plain law -/
theorem okay_nil {n m : Int} (hn : 0 ≤ n ∧ n ≤ 24) (hm : 0 ≤ m ∧ m ≤ 24) : checkM n m [] = 0 := by
  refine ok_check (N := n.toNat) (M := m.toNat) (L := []) ⟨by omega, by omega, by omega, by omega, rfl, by simp, fun e he => (by cases he), List.Pairwise.nil⟩
theorem size_nil {n m : Int} (h : checkM n m [] = 0) : sizeM (msOf n []) = 0 := by
  have ok := check_ok h
  have h1 : IsMax (toEg []) (sizeM (msOf n [])) := ok.best.max
  have h2 : IsMax (toEg []) 0 := ⟨⟨[], ⟨fun e he => (by cases he), List.Pairwise.nil, List.Pairwise.nil⟩, rfl⟩, [], [], fun e he => (by cases he), rfl⟩
  exact h1.unique h2
theorem match_nil {n m : Int} (h : checkM n m [] = 0) : (matchA n m []).1 = [] ∧ (matchA n m []).2.1 = [] ∧ (matchA n m []).2.2.1 = [] ∧ (matchA n m []).2.2.2 = 0 := by
  have ok := check_ok h
  have hs := size_nil h
  have hp := ok.best.pairs.2
  have hc := ok.best.cover.2
  have e : matchA n m [] = (pairsM (msOf n []), whereM (rcOf n []).a n.toNat false, whereM (rcOf n []).b m.toNat true, 0) := by rw [matchA, if_neg (by simp [h])]
  rw [e]
  have h1 : (pairsM (msOf n [])).length = sizeM (msOf n []) := hp
  have h2 : (whereM (rcOf n []).a n.toNat false).length + (whereM (rcOf n []).b m.toNat true).length = sizeM (msOf n []) := hc
  refine ⟨List.eq_nil_of_length_eq_zero (by show (pairsM (msOf n [])).length = 0; omega), List.eq_nil_of_length_eq_zero (by show (whereM (rcOf n []).a n.toNat false).length = 0; omega), List.eq_nil_of_length_eq_zero (by show (whereM (rcOf n []).b m.toNat true).length = 0; omega), rfl⟩
theorem lack_nil {n m : Int} (hn : 0 ≤ n) (h : checkM n m [] = 0) : ((lackA n m []).1.length : Int) = n ∧ (lackA n m []).2.1 = [] ∧ (((lackA n m []).2.2 == 0) = decide (n > 0)) := by
  have ok := check_ok h
  have hs := size_nil h
  have hl := ok.best.lack.2
  have hc := ok.best.cover.2
  by_cases h0 : n = 0
  · have e : lackA n m [] = ([], [], 7) := by rw [lackA, if_neg (by simp [h]), hs, if_pos (by simp [h0])]
    rw [e, h0]
    exact ⟨rfl, rfl, rfl⟩
  · have e : lackA n m [] = (whereM (rcOf n []).a n.toNat true, whereM (rcOf n []).b m.toNat true, 0) := by rw [lackA, if_neg (by simp [h]), hs, if_neg (by simp; omega)]
    rw [e]
    have h1 : (whereM (rcOf n []).a n.toNat true).length + sizeM (msOf n []) = n.toNat + (whereM (rcOf n []).b m.toNat true).length := hl
    have h2 : (whereM (rcOf n []).a n.toNat false).length + (whereM (rcOf n []).b m.toNat true).length = sizeM (msOf n []) := hc
    refine ⟨by simp only; omega, List.eq_nil_of_length_eq_zero (by simp only; omega), ?_⟩
    have : n > 0 := by omega
    simp [this]
/-- All edges between n and m numbers. -/
def full (n m : Nat) : List Eg := (List.range (n * m)).map fun k => (k / m, k % m)
theorem full_mem {n m : Nat} {e : Eg} (h : e ∈ full n m) : e.1 < n ∧ e.2 < m := by
  obtain ⟨k, hk, rfl⟩ := List.mem_map.1 h
  have hk := List.mem_range.1 hk
  have hm : 0 < m := by
    by_cases h0 : m = 0
    · subst h0; simp at hk
    · omega
  exact ⟨Nat.div_lt_of_lt_mul (by rw [Nat.mul_comm]; exact hk), Nat.mod_lt _ hm⟩
theorem mem_full {n m i j : Nat} (hi : i < n) (hj : j < m) : (i, j) ∈ full n m := by
  refine List.mem_map.2 ⟨i * m + j, List.mem_range.2 ?_, ?_⟩
  · have : (i + 1) * m ≤ n * m := Nat.mul_le_mul_right _ hi
    rw [Nat.succ_mul] at this
    omega
  · have h1 : (i * m + j) / m = i := by
      rw [Nat.mul_comm, Nat.mul_add_div (by omega), Nat.div_eq_of_lt hj, Nat.add_zero]
    have h2 : (i * m + j) % m = j := by
      rw [Nat.mul_comm, Nat.mul_add_mod, Nat.mod_eq_of_lt hj]
    simp only [h1, h2]
theorem full_up {n m : Nat} : (full n m).Pairwise lexlt := by
  unfold full
  rw [List.pairwise_map]
  refine List.Pairwise.imp ?_ List.pairwise_lt_range
  intro a b hab
  unfold lexlt
  by_cases hm : m = 0
  · subst hm; simp; exact hab
  have h1 : a / m ≤ b / m := Nat.div_le_div_right (by omega)
  have h2 := Nat.div_add_mod a m
  have h3 := Nat.div_add_mod b m
  by_cases e : a / m = b / m
  · refine .inr ⟨e, ?_⟩
    rw [e] at h2
    omega
  · exact .inl (by omega)
theorem full_ok {n m : Nat} (hn : n ≤ 15) (hm : m ≤ 15) : Okay (n : Int) (m : Int) (castL (full n m)) n m (full n m) := by
  refine ⟨rfl, rfl, by omega, by omega, rfl, ?_, fun e he => full_mem he, full_up⟩
  have : n * m ≤ 15 * 15 := Nat.mul_le_mul hn hm
  simp [full]
  omega
theorem full_max {n m : Nat} (h : n ≤ m) : IsMax (full n m) n ∧ IsMax (full m n) n := by
  constructor
  · refine ⟨⟨(List.range n).map fun i => (i, i), ⟨fun e he => ?_, ?_, ?_⟩, by simp⟩, List.range n, [], fun e he => .inl (List.mem_range.2 (full_mem he).1), by simp⟩
    · obtain ⟨i, hi, rfl⟩ := List.mem_map.1 he
      have := List.mem_range.1 hi
      exact mem_full this (by omega)
    · rw [List.map_map]; exact nodup_map List.nodup_range fun x _ y _ e => e
    · rw [List.map_map]; exact nodup_map List.nodup_range fun x _ y _ e => e
  · refine ⟨⟨(List.range n).map fun i => (i, i), ⟨fun e he => ?_, ?_, ?_⟩, by simp⟩, [], List.range n, fun e he => .inr (List.mem_range.2 (full_mem he).2), by simp⟩
    · obtain ⟨i, hi, rfl⟩ := List.mem_map.1 he
      have := List.mem_range.1 hi
      exact mem_full (by omega) this
    · rw [List.map_map]; exact nodup_map List.nodup_range fun x _ y _ e => e
    · rw [List.map_map]; exact nodup_map List.nodup_range fun x _ y _ e => e
theorem full_size {n m : Nat} (hn : n ≤ 15) (hm : m ≤ 15) : sizeA n m (castL (full n m)) = (if (m : Int) < (n : Int) then (m : Int) else (n : Int), 0) := by
  have hc := ok_check (full_ok hn hm)
  have ok := check_ok hc
  have h1 : IsMax (toEg (castL (full n m))) (sizeM (msOf n (castL (full n m)))) := ok.best.max
  rw [toEg_cast] at h1
  rw [sizeA, if_neg (by simp [hc])]
  by_cases h : m < n
  · rw [if_pos (by omega), h1.unique (full_max (show m ≤ n by omega)).2]
  · rw [if_neg (by omega), h1.unique (full_max (show n ≤ m by omega)).1]
/-! ### The walk -/
def elF (m k : Nat) : List Value := [I ((k / m : Nat) : Int), I ((k % m : Nat) : Int)]
theorem elF_eq {n m k : Nat} (hk : k < n * m) : elF m k = elE (castL (full n m)) k := by
  rw [elE_cast]
  simp only [elF, elG, full]
  rw [List.getD_eq_getElem?_getD, List.getElem?_map, List.getElem?_range hk]
  rfl
end Go.Proofs.Ytpoalimbjeehkaa
/- Openers of arguments for the rows: arrays of two and of three whole numbers. -/
set_option linter.unusedVariables false
set_option linter.unusedSimpArgs false
namespace Go.Sx
open Go.ChangeShapes Go.WideShapes Go.WideMaps
section
variable {H : Type} {enc : TypeId × Value → H} {P : Program} {k e : TypeId} {q : IntKind} {W : World} {base : Nat} {sp : Nat → Bool} {held : Bool}
theorem open_arr2 (A : ArrKey P k e 2) (he : P.underlying e = some (.int q)) {r : Reach} {b0 : Nat} {v : Value} {d : DataW H} {ps : List MemPlace} (hval : Value.okWide P W r b0 k v) (hd : DataW.Trod enc P W base sp held k v d ps) :
    ∃ a b : Int, v = .agg #[.int q a, .int q b] ∧ d = .agg [.lit (.int q a), .lit (.int q b)] ∧ ps = [] ∧ (Lit.int q a).wf = true ∧ (Lit.int q b).wf = true := open_pair A he hval hd
theorem shut_arr2 (A : ArrKey P k e 2) (he : P.underlying e = some (.int q)) {a b : Int} (wa : (Lit.int q a).wf = true) (wb : (Lit.int q b).wf = true) :
    DataW.Trod enc P W base sp held k (.agg #[.int q a, .int q b]) (.agg [.lit (.int q a), .lit (.int q b)]) [] := shut_pair A he wa wb
theorem okWide_three (A : ArrKey P k e 3) {r : Reach} {b0 : Nat} {v : Value} (h : Value.okWide P W r b0 k v) : ∃ c0 c1 c2, v = .agg #[c0, c1, c2] := by
  simp only [Value.okWide, A.hu] at h
  obtain ⟨cs, h1, h2, _⟩ := h
  rw [A.size] at h2
  obtain ⟨l⟩ := cs
  match l, h2 with
  | [c0, c1, c2], _ => exact ⟨c0, c1, c2, h1⟩
theorem open_arr3 (A : ArrKey P k e 3) (he : P.underlying e = some (.int q)) {r : Reach} {b0 : Nat} {v : Value} {d : DataW H} {ps : List MemPlace} (hval : Value.okWide P W r b0 k v) (hd : DataW.Trod enc P W base sp held k v d ps) :
    ∃ a b c : Int, v = .agg #[.int q a, .int q b, .int q c] ∧ d = .agg [.lit (.int q a), .lit (.int q b), .lit (.int q c)] ∧ ps = [] ∧ (Lit.int q a).wf = true ∧ (Lit.int q b).wf = true ∧ (Lit.int q c).wf = true := by
  obtain ⟨c0, c1, c2, rfl⟩ := okWide_three A hval
  obtain ⟨fuel, hf⟩ := hd
  cases fuel with
  | zero => simp [DataW.trod] at hf
  | succ n =>
    rw [DataW.trod_step] at hf
    unfold DataW.trodStep at hf
    simp only [A.hu, Value.cells] at hf
    rw [if_pos (by rw [A.size]; rfl)] at hf
    simp only [Option.map_eq_some_iff] at hf
    obtain ⟨xs, hx, e1⟩ := hf
    rw [show List.range 3 = [0, 1, 2] from rfl, List.mapM_cons, List.mapM_cons, List.mapM_cons, List.mapM_nil] at hx
    simp only [bind, Option.bind_eq_some_iff, pure, Option.some.injEq, A.one] at hx
    obtain ⟨y0, h0, _, ⟨y1, h1, _, ⟨y2, h2, _, rfl, rfl⟩, rfl⟩, rfl⟩ := hx
    obtain ⟨a, ea, rfl, wa⟩ := DataW.trod_int he h0
    obtain ⟨b, eb, rfl, wb⟩ := DataW.trod_int he h1
    obtain ⟨c, ec, rfl, wc⟩ := DataW.trod_int he h2
    simp at ea eb ec
    subst ea; subst eb; subst ec
    simp only [Prod.mk.injEq] at e1
    exact ⟨a, b, c, rfl, by rw [← e1.1]; rfl, by rw [← e1.2]; rfl, wa, wb, wc⟩
theorem shut_arr3 (A : ArrKey P k e 3) (he : P.underlying e = some (.int q)) {a b c : Int} (wa : (Lit.int q a).wf = true) (wb : (Lit.int q b).wf = true) (wc : (Lit.int q c).wf = true) :
    DataW.Trod enc P W base sp held k (.agg #[.int q a, .int q b, .int q c]) (.agg [.lit (.int q a), .lit (.int q b), .lit (.int q c)]) [] :=
  ⟨2, by
    show DataW.trod enc P W base sp held (1 + 1) k [.int q a, .int q b, .int q c] = _
    rw [DataW.trod_step]
    unfold DataW.trodStep
    simp only [A.hu]
    rw [if_pos (by rw [A.size]; rfl), show List.range 3 = [0, 1, 2] from rfl, List.mapM_cons, List.mapM_cons, List.mapM_cons, List.mapM_nil]
    simp [A.one, DataW.trod, he, wa, wb, wc]⟩
end
open Go.RowKit
/-- What the seat's rows tell of a slice of whole numbers, as the executor takes it. -/
theorem rowI {k : IntKind} {w : World} {a : Option Addr} {len cap : Nat} {zs : List Int} (h : (a = none ∧ len = 0 ∧ cap = 0 ∧ zs = []) ∨ ∃ x, a = some x ∧ len ≤ cap ∧ cap ≤ maxLen ∧ zs.length = cap ∧ (∀ i, i < zs.length → w.cell? (x.add i) = some (.int k (zs.getD i 0))) ∧ ∀ n ∈ zs, (Lit.int k n).wf = true) :
    ∃ l : List Int, len = l.length ∧ RdRow w a l.length 1 (fun i => [.int k (l.getD i 0)]) ∧ l.length ≤ maxLen ∧ (∀ n ∈ l, (Lit.int k n).wf = true) ∧ (a = none → l.length = 0) := by
  rcases h with ⟨rfl, rfl, rfl, rfl⟩ | ⟨x, rfl, h1, h2, h3, h4, h5⟩
  · exact ⟨[], rfl, RdRow.nil _ _ _ _, by simp, by simp, fun _ => rfl⟩
  · have hl : (zs.take len).length = len := by simp; omega
    refine ⟨zs.take len, hl.symm, ?_, by omega, fun n hn => h5 n (List.mem_of_mem_take hn), fun h => by cases h⟩
    intro h0
    have hspot : x.spot = none := by
      have := h4 0 (by omega)
      rw [show x.add 0 = x from rfl] at this
      unfold World.cell? at this
      split at this
      · split at this
        · cases this
        · rename_i hn
          cases hs : x.spot with
          | none => rfl
          | some _ => rw [hs] at hn; exact absurd rfl hn
      · cases this
    obtain ⟨b, o, sp⟩ := x
    simp only at hspot
    subst hspot
    refine ⟨b, o, rfl, ?_, fun i hi => ⟨rfl, fun j hj => ?_⟩⟩
    · have := h4 0 (by omega)
      rw [show (⟨b, o, none⟩ : Addr).add 0 = ⟨b, o, none⟩ from rfl] at this
      unfold World.cell? at this
      split at this
      · rename_i hh
        exact (Array.getElem?_eq_some_iff.1 hh).1
      · cases this
    · have hj : j = 0 := by omega
      subst hj
      have := h4 i (by omega)
      rw [Addr.add_lit] at this
      rw [show o + (i * 1 + 0) = o + i by omega, this]
      have hi' : i < len := by omega
      simp [List.getD_eq_getElem?_getD, hi']
end Go.Sx
/- Part U: what the arguments of a row hold, cell by cell. Generic over P. -/
set_option linter.unusedVariables false
set_option linter.unusedSimpArgs false
namespace Go.Sx
open Go.ChangeShapes Go.WideShapes Go.RowKit
inductive Leaf where
  | int (k : IntKind) | bool | str | row (size : Nat) (ls : List Leaf)
def LeafAll (p : Leaf → Value → Prop) : List Leaf → List Value → Prop
  | [], [] => True
  | l :: ls, c :: cs => p l c ∧ LeafAll p ls cs
  | _, _ => False
def Leaf.says (w : World) : Nat → Leaf → Value → Prop
  | 0, _, _ => True
  | _ + 1, .int k, c => ∃ z, c = .int k z ∧ (Lit.int k z).wf = true
  | _ + 1, .bool, c => ∃ b, c = .bool b
  | _ + 1, .str, c => ∃ s : ByteArray, c = .string s ∧ s.size ≤ maxLen
  | d + 1, .row size ls, c => ∃ a len cap, c = .slice a len cap ∧ (a = none → len = 0) ∧ len ≤ maxLen ∧ ∃ ess : List (List Value), ess.length = len ∧ RdRow w a len size (fun i => ess.getD i []) ∧ ∀ es ∈ ess, LeafAll (Leaf.says w d) ls es
theorem LeafAll.nil {p : Leaf → Value → Prop} {cs : List Value} (h : LeafAll p [] cs) : cs = [] := by
  cases cs with
  | nil => rfl
  | cons _ _ => exact h.elim
theorem LeafAll.cons {p : Leaf → Value → Prop} {l : Leaf} {ls : List Leaf} {cs : List Value} (h : LeafAll p (l :: ls) cs) : ∃ c r, cs = c :: r ∧ p l c ∧ LeafAll p ls r := by
  cases cs with
  | nil => exact h.elim
  | cons c r => exact ⟨c, r, rfl, h.1, h.2⟩
theorem LeafAll.append {p : Leaf → Value → Prop} {l1 l2 : List Leaf} {c1 c2 : List Value} (h1 : LeafAll p l1 c1) (h2 : LeafAll p l2 c2) : LeafAll p (l1 ++ l2) (c1 ++ c2) := by
  induction l1 generalizing c1 with
  | nil => rw [h1.nil]; exact h2
  | cons l ls ih =>
    obtain ⟨c, r, rfl, h3, h4⟩ := h1.cons
    exact ⟨h3, ih h4⟩
theorem LeafAll.len {p : Leaf → Value → Prop} {ls : List Leaf} {cs : List Value} (h : LeafAll p ls cs) : cs.length = ls.length := by
  induction ls generalizing cs with
  | nil => rw [h.nil]; rfl
  | cons l ls ih =>
    obtain ⟨c, r, rfl, h3, h4⟩ := h.cons
    simp [ih h4]
def leavesF (g : TypeId → Option (List Leaf)) (cells : TypeId → Nat) : Nat → List Field → Option (List Leaf)
  | _, [] => some []
  | i, f :: fs => match g f.type with
    | some l => bif Nat.beq f.offset i && Nat.beq l.length (cells f.type) then (leavesF g cells (i + l.length) fs).map (l ++ ·) else none
    | none => none
def leaves (P : Program) : Nat → TypeId → Option (List Leaf)
  | 0, _ => none
  | n + 1, t => match P.underlying t with
    | some (.int k) => some [.int k]
    | some .bool => some [.bool]
    | some .string => some [.str]
    | some (.slice e) => match leaves P n e with
      | some ls => bif Nat.blt 0 (P.cellsOf e) && Nat.beq ls.length (P.cellsOf e) then some [.row (P.cellsOf e) ls] else none
      | none => none
    | some (.struct fs) => match leavesF (leaves P n) P.cellsOf 0 fs.toList with
      | some ls => bif Nat.beq ls.length (P.cellsOf t) then some ls else none
      | none => none
    | some (.array m e) => match leaves P n e with
      | some ls => bif Nat.beq ls.length (P.cellsOf e) && Nat.beq (m * ls.length) (P.cellsOf t) then some (List.replicate m ls).flatten else none
      | none => none
    | _ => none
theorem mapM_each {α β : Type} {f : α → Option β} {l : List α} {ys : List β} (h : l.mapM f = some ys) : ∀ a ∈ l, ∃ y, f a = some y := by
  induction l generalizing ys with
  | nil => simp
  | cons a r ih =>
    rw [List.mapM_cons] at h
    simp only [bind, Option.bind_eq_some_iff, pure, Option.some.injEq] at h
    obtain ⟨y, hy, zs, hz, _⟩ := h
    intro b hb
    cases hb with
    | head => exact ⟨y, hy⟩
    | tail _ hb => exact ih hz b hb
theorem leavesF_all {p : Leaf → Value → Prop} {g : TypeId → Option (List Leaf)} {cells : TypeId → Nat} {cs : List Value} : ∀ (fs : List Field) (i : Nat) (ls : List Leaf), leavesF g cells i fs = some ls →
    (∀ f ∈ fs, ∀ l, g f.type = some l → LeafAll p l ((cs.drop f.offset).take (cells f.type))) → i + ls.length = cs.length → LeafAll p ls (cs.drop i)
  | [], i, ls, h, _, hl => by
    injection h with h
    subst h
    rw [List.drop_of_length_le (by simp at hl; omega)]
    trivial
  | f :: fs, i, ls, h, hf, hl => by
    unfold leavesF at h
    split at h
    · rename_i l hg
      cases hc : (Nat.beq f.offset i && Nat.beq l.length (cells f.type)) with
      | false => rw [hc] at h; cases h
      | true =>
        rw [hc] at h
        simp only [cond_true, Option.map_eq_some_iff] at h
        obtain ⟨r, hr, rfl⟩ := h
        rw [Bool.and_eq_true] at hc
        have h1 := Nat.eq_of_beq_eq_true hc.1
        have h2 := Nat.eq_of_beq_eq_true hc.2
        have h3 := hf f (by simp) l hg
        rw [h1, ← h2] at h3
        have h4 := leavesF_all fs (i + l.length) r hr (fun f' hm => hf f' (by simp [hm])) (by simp at hl; omega)
        have := h3.append h4
        rwa [← List.drop_drop, List.take_append_drop] at this
    · cases h
theorem replicate_all {p : Leaf → Value → Prop} {l : List Leaf} : ∀ (m : Nat) (cs : List Value), cs.length = m * l.length → (∀ j, j < m → LeafAll p l ((cs.drop (j * l.length)).take l.length)) → LeafAll p (List.replicate m l).flatten cs
  | 0, cs, hl, _ => by
    have : cs = [] := by simpa using hl
    subst this
    trivial
  | m + 1, cs, hl, h => by
    have h0 := h 0 (by omega)
    rw [Nat.zero_mul, List.drop_zero] at h0
    have h1 := replicate_all (l := l) (p := p) m (cs.drop l.length) (by rw [List.length_drop, hl, Nat.add_mul]; omega) fun j hj => by
      have := h (j + 1) (by omega)
      rw [List.drop_drop]
      rwa [show l.length + j * l.length = (j + 1) * l.length by rw [Nat.add_mul]; omega]
    have := h0.append h1
    rw [List.take_append_drop] at this
    rw [List.replicate_succ, List.flatten_cons]
    exact this
section
variable {H : Type} {enc : TypeId × Value → H} {P : Program} {w : World} {sp : Nat → Bool} {held : Bool}
theorem row_spot {x : Addr} {v : Value} (h : w.cell? x = some v) : x.spot = none ∧ x.block < w.heap.size := by
  unfold World.cell? at h
  split at h
  · rename_i hh
    split at h
    · cases h
    · rename_i hn
      refine ⟨?_, (Array.getElem?_eq_some_iff.1 hh).1⟩
      cases hs : x.spot with
      | none => rfl
      | some _ => rw [hs] at hn; exact absurd rfl hn
  · cases h
theorem trod_leaves : ∀ (fuel : Nat) (t : TypeId) (cs : List Value) (x : DataW H × List MemPlace), DataW.trod enc P w 0 sp held fuel t cs = some x → ∀ n ls, leaves P n t = some ls → ∀ d, LeafAll (Leaf.says w d) ls cs := by
  intro fuel
  induction fuel with
  | zero => intro t cs x h; simp [DataW.trod] at h
  | succ fuel ih =>
    intro t cs x h n ls hl d
    cases n with
    | zero => cases hl
    | succ n =>
      unfold leaves at hl
      split at hl
      · rename_i k hu
        obtain ⟨z, rfl, _, hw⟩ := DataW.trod_int hu h
        injection hl with hl
        subst hl
        cases d with
        | zero => exact ⟨trivial, trivial⟩
        | succ d => exact ⟨⟨z, rfl, hw⟩, trivial⟩
      · rename_i hu
        obtain ⟨b, rfl, _⟩ := DataW.trod_bool hu h
        injection hl with hl
        subst hl
        cases d with
        | zero => exact ⟨trivial, trivial⟩
        | succ d => exact ⟨⟨b, rfl⟩, trivial⟩
      · rename_i hu
        obtain ⟨s, rfl, _, hs⟩ := DataW.trod_string hu h
        injection hl with hl
        subst hl
        cases d with
        | zero => exact ⟨trivial, trivial⟩
        | succ d => exact ⟨⟨s, rfl, hs⟩, trivial⟩
      · rename_i e hu
        split at hl
        · rename_i le hle
          cases hc : (Nat.blt 0 (P.cellsOf e) && Nat.beq le.length (P.cellsOf e)) with
          | false => rw [hc] at hl; cases hl
          | true =>
            rw [hc] at hl
            injection hl with hl
            subst hl
            rw [Bool.and_eq_true] at hc
            have hpos : 0 < P.cellsOf e := by simpa [Nat.blt_eq] using hc.1
            rcases DataW.trod_slice hu h with ⟨rfl, _⟩ | ⟨a, len, cap, elems, rest, n', hn', rfl, _, _, hlc, hcm, hlen, hel, _, _⟩
            · cases d with
              | zero => exact ⟨trivial, trivial⟩
              | succ d => exact ⟨⟨none, 0, 0, rfl, fun _ => rfl, by decide, [], rfl, fun h => absurd h (by decide), by simp⟩, trivial⟩
            · cases d with
              | zero => exact ⟨trivial, trivial⟩
              | succ d =>
                injection hn' with hn'
                subst hn'
                have each : ∀ i, i < len → ∃ es, w.cells? 0 (a.add (i * P.cellsOf e)) (P.cellsOf e) = some es ∧ LeafAll (Leaf.says w d) le es := by
                  intro i hi
                  have := hel i hi
                  rw [List.getElem?_eq_getElem (by omega), Option.bind_eq_some_iff] at this
                  obtain ⟨es, h1, h2⟩ := this
                  exact ⟨es, h1, ih e es _ h2 n le hle d⟩
                have : ∃ ess : List (List Value), ess.length = len ∧ ∀ i, i < len → w.cells? 0 (a.add (i * P.cellsOf e)) (P.cellsOf e) = some (ess.getD i []) ∧ LeafAll (Leaf.says w d) le (ess.getD i []) := by
                  refine ⟨(List.range len).map fun i => if hi : i < len then (each i hi).choose else [], by simp, fun i hi => ?_⟩
                  rw [List.getD_eq_getElem?_getD, List.getElem?_map, List.getElem?_range hi]
                  simp only [Option.map_some, Option.getD_some, dif_pos hi]
                  exact (each i hi).choose_spec
                obtain ⟨ess, hsl, hs⟩ := this
                refine ⟨⟨some a, len, cap, rfl, (fun h => by cases h), by omega, ess, hsl, fun h0 => ?_, fun es hm => ?_⟩, trivial⟩
                · have cell : ∀ i, i < len → (ess.getD i []).length = P.cellsOf e ∧ ∀ j, j < P.cellsOf e → w.cell? (a.add (i * P.cellsOf e + j)) = (ess.getD i [])[j]? := by
                    intro i hi
                    have h3 := World.cells?_some (hs i hi).1
                    refine ⟨h3.2.1, fun j hj => ?_⟩
                    have := h3.2.2 j hj
                    rwa [Addr.add_add] at this
                  have h00 := (cell 0 h0).2 0 hpos
                  have hlen0 := (cell 0 h0).1
                  rw [List.getElem?_eq_getElem (by omega), Nat.zero_mul, Nat.add_zero, show a.add 0 = a from rfl] at h00
                  have hsp := row_spot h00
                  obtain ⟨b, o, s⟩ := a
                  have hs0 : s = none := hsp.1
                  subst hs0
                  refine ⟨b, o, rfl, hsp.2, fun i hi => ⟨(cell i hi).1, fun j hj => ?_⟩⟩
                  have := (cell i hi).2 j hj
                  rwa [Addr.add_lit] at this
                · obtain ⟨i, hi, rfl⟩ := List.mem_iff_getElem.1 hm
                  have := (hs i (by omega)).2
                  rwa [List.getD_eq_getElem?_getD, List.getElem?_eq_getElem hi] at this
        · cases hl
      · rename_i fs hu
        split at hl
        · rename_i lf hlf
          cases hc : Nat.beq lf.length (P.cellsOf t) with
          | false => rw [hc] at hl; cases hl
          | true =>
            rw [hc] at hl
            injection hl with hl
            subst hl
            have hcl := Nat.eq_of_beq_eq_true hc
            rw [DataW.trod_step] at h
            unfold DataW.trodStep at h
            simp only [hu] at h
            split at h
            · rename_i hlen
              simp only [Option.map_eq_some_iff] at h
              obtain ⟨ys, hys, _⟩ := h
              have := leavesF_all (p := Leaf.says w d) (cs := cs) fs.toList 0 lf hlf (fun f hf l hg => by
                obtain ⟨y, hy⟩ := mapM_each hys f hf
                exact ih f.type _ y hy n l hg d) (by omega)
              simpa using this
            · cases h
        · cases hl
      · rename_i m e hu
        split at hl
        · rename_i le hle
          cases hc : (Nat.beq le.length (P.cellsOf e) && Nat.beq (m * le.length) (P.cellsOf t)) with
          | false => rw [hc] at hl; cases hl
          | true =>
            rw [hc] at hl
            injection hl with hl
            subst hl
            rw [Bool.and_eq_true] at hc
            have h1 := Nat.eq_of_beq_eq_true hc.1
            have h2 := Nat.eq_of_beq_eq_true hc.2
            rw [DataW.trod_step] at h
            unfold DataW.trodStep at h
            simp only [hu] at h
            split at h
            · rename_i hlen
              simp only [Option.map_eq_some_iff] at h
              obtain ⟨ys, hys, _⟩ := h
              refine replicate_all m cs (by omega) fun j hj => ?_
              obtain ⟨y, hy⟩ := mapM_each hys j (List.mem_range.2 hj)
              rw [← h1] at hy
              exact ih e _ y hy n le hle d
            · cases h
        · cases hl
      · cases hl
/-- The cells of an argument. -/
theorem open_leaves {t : TypeId} {v : Value} {dd : DataW H} {ps : List MemPlace} (h : DataW.Trod enc P w 0 sp held t v dd ps) (n : Nat) {ls : List Leaf} (hl : leaves P n t = some ls) (d : Nat) : LeafAll (Leaf.says w d) ls v.cells.toList := by
  obtain ⟨fuel, hf⟩ := h
  exact trod_leaves fuel t _ _ hf n ls hl d
end
/-- An argument that is a struct or an array is an aggregate. -/
theorem okWide_agg {P : Program} {w : World} {r : Reach} {b0 : Nat} {t : TypeId} {v : Value} (h : Value.okWide P w r b0 t v) (ha : (match P.underlying t with | some (.struct _) => true | some (.array _ _) => true | _ => false) = true) : ∃ cs, v = .agg cs := by
  unfold Value.okWide at h
  split at h
  · exact ⟨_, h.choose_spec.1⟩
  · exact ⟨_, h.choose_spec.1⟩
  · rename_i h1 h2
    split at ha
    · rename_i fs hu; exact absurd hu (h1 fs)
    · rename_i m e hu; exact absurd hu (h2 m e)
    · cases ha
end Go.Sx
/- Chapter 37: the laws MatchSizes and MatchTurned. -/
set_option linter.unusedVariables false
set_option linter.unusedSimpArgs false
set_option maxRecDepth 8000
set_option maxHeartbeats 1000000
namespace Go.Proofs.Ytpoalimbjeehkaa
open Go.Sx Go.RowKit Mt
def fewB (l : List EI) : Bool := decide ((l.length : Int) ≤ 40) || ((l.length : Int) == 257)
/-! ### Turned -/
def rowsOf (L : List Eg) (r : Nat) : List Eg := (L.filter fun e => e.2 == r).map swap
def turnK (L : List Eg) (k : Nat) : List Eg := (List.range k).flatMap (rowsOf L)
theorem turnK_succ (L : List Eg) (k : Nat) : turnK L (k + 1) = turnK L k ++ rowsOf L k := by
  simp [turnK, List.range_succ]
theorem rowsOf_succ (L : List Eg) (r i : Nat) (h : i < L.length) : rowsOf (L.take (i + 1)) r = rowsOf (L.take i) r ++ (if (L.getD i (0, 0)).2 = r then [swap (L.getD i (0, 0))] else []) := by
  unfold rowsOf
  rw [List.take_add_one, List.getElem?_eq_getElem h, List.filter_append, List.map_append, List.getD_eq_getElem?_getD, List.getElem?_eq_getElem h]
  congr 1
  by_cases e : (L[i]).2 = r <;> simp [e]
theorem mem_turnK {L : List Eg} {k : Nat} {e : Eg} : e ∈ turnK L k ↔ e.1 < k ∧ swap e ∈ L := by
  simp only [turnK, List.mem_flatMap, List.mem_range, rowsOf, List.mem_map, List.mem_filter]
  constructor
  · rintro ⟨r, hr, x, ⟨hx, hxr⟩, rfl⟩
    simp only [beq_iff_eq] at hxr
    exact ⟨by simp only [swap]; omega, by simpa [swap] using hx⟩
  · rintro ⟨h1, h2⟩
    exact ⟨e.1, h1, swap e, ⟨h2, by simp [swap]⟩, by simp [swap]⟩
theorem turnK_len (L : List Eg) (k : Nat) (h : L.Pairwise lexlt) : (turnK L k).Pairwise lexlt ∧ (turnK L k).length ≤ L.length := by
  have hup : (turnK L k).Pairwise lexlt := by
    induction k with
    | zero => exact List.Pairwise.nil
    | succ k ih =>
      rw [turnK_succ, List.pairwise_append]
      refine ⟨ih, ?_, fun a ha b hb => ?_⟩
      · unfold rowsOf
        rw [List.pairwise_map]
        have hf : (L.filter fun e => e.2 == k).Pairwise lexlt := h.filter _
        refine List.Pairwise.imp_of_mem ?_ hf
        intro a b ha hb hab
        have h1 := (List.mem_filter.1 ha).2
        have h2 := (List.mem_filter.1 hb).2
        simp only [beq_iff_eq] at h1 h2
        unfold lexlt at hab ⊢
        simp only [swap]
        omega
      · have h1 := (mem_turnK.1 ha).1
        obtain ⟨x, hx, rfl⟩ := List.mem_map.1 hb
        have h2 := (List.mem_filter.1 hx).2
        simp only [beq_iff_eq] at h2
        unfold lexlt
        simp only [swap]
        omega
  refine ⟨hup, ?_⟩
  have hnd : (turnK L k).Nodup := hup.imp fun hab e => by subst e; unfold lexlt at hab; omega
  have := nodup_le (l := (turnK L k).map swap) (r := L) (nodup_map hnd fun x _ y _ e => by
    unfold swap at e
    injection e with e1 e2
    obtain ⟨x1, x2⟩ := x
    obtain ⟨y1, y2⟩ := y
    simp only at e1 e2
    rw [e1, e2]) fun y hy => by
      obtain ⟨x, hx, rfl⟩ := List.mem_map.1 hy
      exact (mem_turnK.1 hx).2
  simpa using this
theorem turn_ok {n m : Int} {l : List EI} {N M : Nat} {L : List Eg} (h : Okay n m l N M L) : Okay m n (castL (turnK L M)) M N (turnK L M) := by
  obtain ⟨h1, h2⟩ := turnK_len L M h.up
  exact ⟨h.hm, h.hn, h.hM, h.hN, rfl, by have := h.len; omega, fun e he => by
    have := mem_turnK.1 he
    have h3 := h.mem _ this.2
    simp only [swap] at h3
    omega, h1⟩
theorem turn_size {n m : Int} {l : List EI} {N M : Nat} {L : List Eg} (h : Okay n m l N M L) : sizeA m n (castL (turnK L M)) = sizeA n m l := by
  have ht := turn_ok h
  have c1 := ok_check h
  have c2 := ok_check ht
  have e1 : toEg l = L := by rw [h.hl, toEg_cast]
  have m1 : IsMax L (sizeM (matched N L)) := h.best.max
  have m2 : IsMax (turnK L M) (sizeM (matched M (turnK L M))) := ht.best.max
  have m3 : IsMax (turnK L M) (sizeM (matched N L)) := m1.turn.congr fun e => by
    rw [mem_turnK]
    constructor
    · intro he
      obtain ⟨x, hx, rfl⟩ := List.mem_map.1 he
      exact ⟨by have := (h.mem x hx).2; simp only [swap]; omega, by simpa [swap] using hx⟩
    · rintro ⟨_, he⟩
      exact List.mem_map.2 ⟨_, he, by simp [swap]⟩
  rw [sizeA, if_neg (by simp [c2]), sizeA, if_neg (by simp [c1]), msOf, msOf, toEg_cast, e1]
  have := m2.unique m3
  rw [show m.toNat = M by rw [h.hm]; simp, show n.toNat = N by rw [h.hn]; simp, this]
theorem size_err {n m : Int} {l : List EI} (h : (sizeA n m l).2 ≠ 0) : (sizeA n m l).1 = 0 := by
  unfold sizeA at h ⊢
  split at h
  · rename_i h1; rw [if_pos h1]
  · exact absurd rfl h
theorem size_ok {n m : Int} {l : List EI} (h : (sizeA n m l).2 = 0) : checkM n m l = 0 := by
  unfold sizeA at h
  split at h
  · cases h
  · rename_i h1; simpa using h1
theorem rowsOf_len (L : List Eg) (r : Nat) : (rowsOf L r).length ≤ L.length := by
  unfold rowsOf
  rw [List.length_map]
  exact List.length_filter_le _ _
end Go.Proofs.Ytpoalimbjeehkaa
/- Chapter 37: the law MatchLacks. -/
set_option linter.unusedVariables false
set_option linter.unusedSimpArgs false
set_option maxRecDepth 8000
set_option maxHeartbeats 1000000
namespace Go.Proofs.Ytpoalimbjeehkaa
open Go.Sx Go.RowKit Mt
def lackI (n m : Int) (l : List EI) : List Int × List Int × Int := (castI (lackA n m l).1, castI (lackA n m l).2.1, (lackA n m l).2.2)
/-- The edges at a number on the right from numbers of a list. -/
def atQ (right : Int) (la : List Int) (e : EI) : Bool := (e.2 == right) && la.any fun y => e.1 == y
theorem SatM.apartR {E : Env} {ρ : Val} {m : Mem} {w : World} (h : SatM E ρ m w) {x q n sz len g : Nat} {b : Blk} {el : Nat → List Value} (hx : m x = some b) (ho : b.own) (hq : m q = some (.ro sz n el)) (hl : len ≤ n) (hne : x ≠ q) : 0 < len → ∀ a, rowAd ρ q = some a → a.block ≠ (ρ x).1 := by
  intro h0 a ha
  unfold rowAd at ha
  split at ha
  · cases ha
  injection ha with ha
  subst ha
  have hlive : Blk.live (.ro sz n el) := by show 0 < n; omega
  exact (h.ne x q b _ hx hq ho hlive hne).symm
theorem asc_cast {L : List Nat} {N : Nat} (h1 : L.Pairwise (· < ·)) (h2 : ∀ x ∈ L, x < N) : ascB (castI L) (N : Int) = true := by
  have hg : ∀ k, k < L.length → ∃ h : k < L.length, (castI L).getD k 0 = (L[k] : Int) := fun k hk => ⟨hk, by
    simp [castI, List.getD_eq_getElem?_getD, List.getElem?_eq_getElem hk]⟩
  unfold ascB
  rw [Bool.not_eq_true', List.any_eq_false]
  intro k hk
  have hk : k < L.length := by
    have := (List.mem_range'_1.1 hk).2
    rw [castI_len] at this
    omega
  obtain ⟨_, e1⟩ := hg k hk
  have b1 := h2 _ (List.getElem_mem hk)
  have b2 : 0 < k → ((castI L).getD (k - 1) 0) < (castI L).getD k 0 := fun h0 => by
    obtain ⟨hk1, e2⟩ := hg (k - 1) (by omega)
    rw [e1, e2]
    have := List.pairwise_iff_getElem.1 h1 (k - 1) k hk1 hk (by omega)
    omega
  rw [Bool.not_eq_true, Bool.eq_false_iff]
  intro hb
  unfold badA at hb
  rw [e1] at hb b2
  simp only [Bool.or_eq_true, Bool.and_eq_true, decide_eq_true_eq] at hb
  rcases hb with (hb | hb) | ⟨h3, h4⟩
  · omega
  · omega
  · have := b2 (by omega)
    omega
theorem castI_any (L : List Nat) (k : Nat) : (castI L).any (fun y => (k : Int) == y) = decide (k ∈ L) := by
  rw [Bool.eq_iff_iff, List.any_eq_true]
  simp [castI]
  exact ⟨fun ⟨a, h, e⟩ => by have : a = k := by omega
                             exact this ▸ h, fun h => ⟨k, h, rfl⟩⟩
theorem atQ_any {L : List Eg} {la : List Nat} {k : Nat} : (castL L).any (atQ k (castI la)) = decide (∃ e ∈ L, e.2 = k ∧ e.1 ∈ la) := by
  rw [Bool.eq_iff_iff, List.any_eq_true, decide_eq_true_iff]
  constructor
  · rintro ⟨e, he, h⟩
    obtain ⟨x, hx, rfl⟩ := List.mem_map.1 he
    unfold atQ at h
    rw [Bool.and_eq_true, castI_any] at h
    exact ⟨x, hx, by have := h.1; simp at this; omega, by simpa using h.2⟩
  · rintro ⟨x, hx, h1, h2⟩
    refine ⟨_, List.mem_map.2 ⟨x, hx, rfl⟩, ?_⟩
    unfold atQ
    rw [Bool.and_eq_true, castI_any]
    exact ⟨by simp; omega, by simpa using h2⟩
theorem lack_err1 {n m : Int} {l : List EI} (h : (sizeA n m l).2 ≠ 0) : lackI n m l = ([], [], (sizeA n m l).2) := by
  unfold sizeA at h ⊢
  unfold lackI lackA
  split at h
  · rename_i h1; rw [if_pos h1, if_pos h1]; rfl
  · exact absurd rfl h
theorem lack_err2 {n m : Int} {l : List EI} (h : (sizeA n m l).2 = 0) (h2 : (lackI n m l).2.2 ≠ 0) : lackI n m l = ([], [], 7) ∧ (sizeA n m l).1 = n := by
  have h0 := size_ok h
  have hc : ¬(checkM n m l != 0) = true := by simp [h0]
  by_cases h1 : ((sizeM (msOf n l) : Int) == n) = true
  · simp only [lackI, lackA, sizeA, if_neg hc, if_pos h1]
    exact ⟨rfl, by simpa using h1⟩
  · simp only [lackI, lackA, if_neg hc, if_neg h1] at h2
    exact absurd rfl h2
theorem lack_okay {n m : Int} {l : List EI} (h : (sizeA n m l).2 = 0) (h2 : (lackI n m l).2.2 = 0) : ∃ (N M : Nat) (L : List Eg) (a b : List Nat), n = N ∧ m = M ∧ M ≤ 24 ∧ N ≤ 24 ∧ l = castL L ∧ (lackI n m l).1 = castI a ∧ (lackI n m l).2.1 = castI b ∧
    a.length ≤ 24 ∧ b.length ≤ 24 ∧ (a.length : Int) - b.length = n - (sizeA n m l).1 ∧ (sizeA n m l).1 ≠ n ∧ ascB (castI a) n = true ∧ ascB (castI b) m = true ∧ ∀ y, y < M → (castL L).any (atQ y (castI a)) = (castI b).any fun z => (y : Int) == z := by
  have h0 := size_ok h
  have ok := check_ok h0
  obtain ⟨hk1, hk2⟩ := ok.best.lack
  have e1 : (lackI n m l).1 = castI (whereM (reached n.toNat (toEg l) (matched n.toNat (toEg l))).a n.toNat true) ∧ (lackI n m l).2.1 = castI (coverR n.toNat m.toNat (toEg l)) ∧ (sizeA n m l).1 = sizeM (matched n.toNat (toEg l)) ∧ (sizeM (matched n.toNat (toEg l)) : Int) ≠ n := by
    have hc : ¬(checkM n m l != 0) = true := by simp [h0]
    by_cases h1 : ((sizeM (msOf n l) : Int) == n) = true
    · simp only [lackI, lackA, if_neg hc, if_pos h1] at h2
      cases h2
    · simp only [lackI, lackA, sizeA, if_neg hc, if_neg h1]
      exact ⟨rfl, rfl, rfl, by simpa [msOf] using h1⟩
  obtain ⟨e1, e2, e3, e4⟩ := e1
  have hN := ok.hN
  have hM := ok.hM
  have hn := ok.hn
  have hmm := ok.hm
  have wl : ∀ f : Nat → Bool, ∀ k v, (whereM f k v).length ≤ 24 := fun f k v => by
    have := List.length_filter_le (fun i => decide (i < k) && (f i == v)) (List.range 24)
    rw [List.length_range] at this
    exact this
  refine ⟨n.toNat, m.toNat, toEg l, _, _, hn, hmm, hM, hN, ok.hl, e1, e2, wl _ _ _, wl _ _ _, by rw [e3]; omega, by rw [e3]; exact e4, ?_, ?_, fun y hy => ?_⟩
  · have := asc_cast (N := n.toNat) (where_up (reached n.toNat (toEg l) (matched n.toNat (toEg l))).a n.toNat true) fun x hx => ((where_mem hN _ _).1 hx).1
    rw [← hn] at this
    exact this
  · have := asc_cast (N := m.toNat) (where_up (reached n.toNat (toEg l) (matched n.toNat (toEg l))).b m.toNat true) fun x hx => ((where_mem hM _ _).1 hx).1
    rw [← hmm] at this
    exact this
  · rw [atQ_any, castI_any, decide_eq_decide]
    exact hk1 y hy
end Go.Proofs.Ytpoalimbjeehkaa
/- Chapter 37: the reference's Verify, and the law MatchVerifies. -/
set_option linter.unusedVariables false
set_option linter.unusedSimpArgs false
set_option maxRecDepth 8000
set_option maxHeartbeats 1000000
namespace Go.Proofs.Ytpoalimbjeehkaa
open Go.Sx Go.RowKit Mt
def knB (l : List EI) (x : EI) (j : Nat) : Bool := (List.range j).any fun i => eqE (l.getD i (0, 0)) x
theorem knB_succ (l : List EI) (x : EI) (j : Nat) : knB l x (j + 1) = (knB l x j || eqE (l.getD j (0, 0)) x) := by simp [knB, List.range_succ]
theorem eqE_comm (a b : EI) : eqE a b = eqE b a := by
  rw [Bool.eq_iff_iff]
  simp only [eqE, Bool.and_eq_true, beq_iff_eq]
  omega
theorem knB_all (l : List EI) (x : EI) : knB l x l.length = l.any (eqE x) := by
  rw [← any_getDE (eqE x), knB, List.range_eq_range']
  simp only [eqE_comm]
def dupB (p : List EI) (k j : Nat) : Bool := (List.range j).any fun i => ((p.getD i (0, 0)).1 == (p.getD k (0, 0)).1) || ((p.getD i (0, 0)).2 == (p.getD k (0, 0)).2)
theorem dupB_succ (p : List EI) (k j : Nat) : dupB p k (j + 1) = (dupB p k j || (((p.getD j (0, 0)).1 == (p.getD k (0, 0)).1) || ((p.getD j (0, 0)).2 == (p.getD k (0, 0)).2))) := by simp [dupB, List.range_succ]
theorem any_or {α : Type} (f g : α → Bool) (l : List α) : (l.any fun x => f x || g x) = (l.any f || l.any g) := by
  induction l with
  | nil => rfl
  | cons a r ih => simp only [List.any_cons, ih]; cases f a <;> cases g a <;> cases r.any f <;> cases r.any g <;> rfl
/-- The program's fault at a pair is the reference's. -/
theorem badP_eq (l p : List EI) (k : Nat) : badP l p k = ((!(knB l (p.getD k (0, 0)) l.length) || (decide ((k : Int) > 0) && !behB (p.getD k (0, 0)) (p.getD (k - 1) (0, 0)))) || dupB p k k) := by
  have hd : dupB p k k = (dupL p k (p.getD k (0, 0)).1 || dupR p k (p.getD k (0, 0)).2) := by
    unfold dupB dupL dupR
    exact any_or _ _ _
  rw [badP, knB_all, hd]
  cases h1 : dupL p k (p.getD k (0, 0)).1 with
  | true => simp
  | false =>
    cases h2 : dupR p k (p.getD k (0, 0)).2 with
    | true => simp
    | false =>
      have : (decide ((k : Int) > 0) && !behB (p.getD k (0, 0)) (p.getD (k - 1) (0, 0))) = (decide ((k : Int) > 0) && decide ((p.getD k (0, 0)).1 < (p.getD (k - 1) (0, 0)).1)) := by
        cases k with
        | zero => rfl
        | succ k =>
          rw [dupL_succ] at h1
          have h1 := (Bool.or_eq_false_iff.1 h1).2
          rw [behB_not, notBeh]
          simp only [Nat.add_sub_cancel]
          have : ((p.getD (k + 1) (0, 0)).1 == (p.getD k (0, 0)).1) = false := by
            rw [← h1, Bool.eq_iff_iff, beq_iff_eq, beq_iff_eq]
            omega
          rw [this]
          simp
      rw [this]
      simp
end Go.Proofs.Ytpoalimbjeehkaa
/- Chapter 37: the law MatchVerifies. -/
set_option linter.unusedVariables false
set_option linter.unusedSimpArgs false
set_option maxRecDepth 8000
set_option maxHeartbeats 1000000
namespace Go.Proofs.Ytpoalimbjeehkaa
open Go.Sx Go.RowKit Mt
end Go.Proofs.Ytpoalimbjeehkaa
/- The symbolic executor, part AF: maps from numbers to true (sets of numbers): made, asked, grown. Generic over P. -/
set_option linter.unusedVariables false
set_option linter.unusedSimpArgs false
namespace Go.Sx
open Go.RowKit
structure MpT (P : Program) (t kt et : TypeId) : Prop where
  hm : P.underlying t = some (.map kt et)
  hk : P.underlying kt = some (.int .i64)
  he : ∀ w : World, (zeroValue et).run P w = .ok (.bool false) w
/-- A map that holds true under just the numbers of a set. -/
def ISet (S : Int → Bool) (o : Obj) : Prop := ∃ es clock, o = .map es clock ∧ (∀ e ∈ es.toList, ∃ n, e.key = .int .i64 n ∧ e.val = .bool true ∧ S n = true) ∧ ∀ n, S n = true → ∃ e ∈ es.toList, e.key = .int .i64 n
theorem findNow_set (n : Int) : ∀ (l : List MapEntry) (i : Nat), (∀ e ∈ l, ∃ m, e.key = .int .i64 m ∧ e.val = .bool true) →
    (Instr.findNow (.int .i64) (.int .i64 n) l i = some none ∧ ∀ e ∈ l, e.key ≠ .int .i64 n) ∨ ∃ j, Instr.findNow (.int .i64) (.int .i64 n) l i = some (some (j, .bool true)) ∧ ∃ e ∈ l, e.key = .int .i64 n := by
  intro l
  induction l with
  | nil => intro i _; exact .inl ⟨rfl, fun e h => by cases h⟩
  | cons a r ih =>
    intro i h
    obtain ⟨m, h1, h2⟩ := h a (.head _)
    by_cases e : n = m
    · subst e
      refine .inr ⟨i, ?_, a, .head _, h1⟩
      simp [Instr.findNow, Instr.sameNow, h1, h2]
    · have hn : Instr.findNow (.int .i64) (.int .i64 n) (a :: r) i = Instr.findNow (.int .i64) (.int .i64 n) r (i + 1) := by
        have h3 : Instr.sameNow (.int .i64) (.int .i64 n) a.key = some false := by rw [h1]; simp [Instr.sameNow, e]
        rw [Instr.findNow, h3]
      rw [hn]
      rcases ih (i + 1) fun x hx => h x (.tail _ hx) with ⟨k1, k2⟩ | ⟨j, k1, x, hx, k2⟩
      · refine .inl ⟨k1, fun x hx => ?_⟩
        cases hx with
        | head => rw [h1]; intro hc; injection hc with _ hc; exact e hc.symm
        | tail _ hx => exact k2 x hx
      · exact .inr ⟨j, k1, x, .tail _ hx, k2⟩
section
variable {P : Program} {t kt et : TypeId} {w : World} {r : Nat} {S : Int → Bool} {o : Obj}
theorem run_lookup_set (hp : MpT P t kt et) (hb : w.heap[r]? = some o) (ho : ISet S o) (n : Int) : (Instr.lookup t (.map (some r)) (.int .i64 n) false).run P w = .ok (.bool (S n)) w := by
  obtain ⟨es, clock, rfl, h1, h2⟩ := ho
  have hc : ∀ em, (Instr.checkKey em 10000 kt (.int .i64 n)).run P w = .ok () w := fun em => MapKept.run_checkKey hp.hk (by trivial) em 9999
  rcases findNow_set n es.toList 0 (fun e he => by obtain ⟨m, a, b, _⟩ := h1 e he; exact ⟨m, a, b⟩) with ⟨k1, k2⟩ | ⟨j, k1, e, he, k2⟩
  · have hS : S n = false := by
      cases hs : S n with
      | false => rfl
      | true =>
        obtain ⟨e, he, hk⟩ := h2 n hs
        exact absurd hk (k2 e he)
    rw [hS]
    simp [Instr.lookup, run_underlying hp.hm, MapKept.run_getObj_map hb, hc, MapKept.run_findKey hp.hk k1, hp.he, Result.andThen]
  · have hS : S n = true := by
      obtain ⟨m, a, _, b⟩ := h1 e he
      rw [k2] at a
      injection a with _ a
      rw [a]; exact b
    rw [hS]
    simp [Instr.lookup, run_underlying hp.hm, MapKept.run_getObj_map hb, hc, MapKept.run_findKey hp.hk k1, Result.andThen]
theorem run_update_set (hp : MpT P t kt et) (hb : w.heap[r]? = some o) (ho : ISet S o) {n : Int} (hn : S n = false) {S2 : Int → Bool} (hS : ∀ q, S2 q = (S q || (q == n))) :
    ∃ o', (Instr.mapUpdate t (.map (some r)) (.int .i64 n) (.bool true)).run P w = .ok () { w with heap := w.heap.setIfInBounds r o' } ∧ ISet S2 o' := by
  obtain ⟨es, clock, rfl, h1, h2⟩ := ho
  have hc : ∀ em, (Instr.checkKey em 10000 kt (.int .i64 n)).run P w = .ok () w := fun em => MapKept.run_checkKey hp.hk (by trivial) em 9999
  rcases findNow_set n es.toList 0 (fun e he => by obtain ⟨m, a, b, _⟩ := h1 e he; exact ⟨m, a, b⟩) with ⟨k1, k2⟩ | ⟨j, k1, e, he, k2⟩
  · refine ⟨.map (es.push ⟨.int .i64 n, .bool true, clock⟩) (clock + 1), ?_, _, _, rfl, fun e he => ?_, fun q hq => ?_⟩
    · simp [Instr.mapUpdate, run_underlying hp.hm, MapKept.run_getObj_map hb, hc, MapKept.run_findKey hp.hk k1, MapKept.run_setObj_map _ hb, Result.andThen]
    · simp only [Array.toList_push, List.mem_append, List.mem_singleton] at he
      rcases he with he | rfl
      · obtain ⟨m, a, b, c⟩ := h1 e he
        exact ⟨m, a, b, by rw [hS, c]; rfl⟩
      · exact ⟨n, rfl, rfl, by rw [hS]; simp⟩
    · rw [hS, Bool.or_eq_true] at hq
      simp only [Array.toList_push, List.mem_append, List.mem_singleton]
      rcases hq with hq | hq
      · obtain ⟨e, he, hk⟩ := h2 q hq
        exact ⟨e, .inl he, hk⟩
      · simp only [beq_iff_eq] at hq
        exact ⟨_, .inr rfl, by rw [hq]⟩
  · obtain ⟨m, a, _, b⟩ := h1 e he
    rw [k2] at a
    injection a with _ a
    rw [← a, hn] at b
    cases b
end
section
variable {P : Program} {E : Env} {K : Exit → St → Prop} {T : Tab}
theorem Sat.mapAt {ρ : Val} {m : Mem} {w : World} (h : SatM E ρ m w) {x : Nat} {Q : Obj → Prop} (hx : m x = some (.obj Q)) : ∃ o, w.heap[(ρ x).1]? = some o ∧ Q o := (h.ok x _ hx).2.2
theorem GO.makeMap {ops : Array Oper} {rest : List Oper} {o : Oper} {t d : Nat} {t0 : Nat → TV} {m : Mem} (S : Int → Bool) (hS : ∀ n, S n = false) (hg : o.guard = none) (hop : o.op = .makeMap t none) (hd : o.dst = some d) (hdN : Nat.blt d E.N = true) (hx : m d = none) (hxb : Nat.blt d 1000 = true)
    (k : GO P E ops K rest ⟨up t0 d (.v (.c (.mp d))), up m d (some (.obj (ISet S)))⟩) : GO P E ops K (o :: rest) ⟨t0, m⟩ := by
  intro ρ a w hs
  have hrun : (execOp a.eval o).run P w = .ok (.value (.map (some w.heap.size))) (w.alloc (.map #[] 0)) := by
    simp [execOp, hop, Instr.makeMap]
  unfold wpList
  rw [if_pos (by simp [Region.wanted, hg])]
  refine .inl ?_
  have hxb : d < 1000 := by simpa [Nat.blt_eq] using hxb
  refine Snd.go hs (fun n hn => by rw [hd] at hn; injection hn with hn; subst hn; simpa [Nat.blt_eq] using hdN) (tv := .v (.c (.mp d)))
    (Snd.new hx (hs.mem.alloc hx hxb (.obj (ISet S)) (.map #[] 0) fun ρ' h1 h2 => ⟨by rw [h2], .inl (by rw [h2]; exact hs.mem.fr.size), .map #[] 0, by rw [h2]; exact heap_alloc_new _ _, #[], 0, rfl, fun e he => by simp at he, fun n hn => by rw [hS] at hn; cases hn⟩) hrun ⟨by simp [AV.ok, AC.ok, up_same], by simp [AV.conc, AC.conc, up_same]⟩) fun ρ' a' w' hs' => k ρ' a' w' ?_
  rw [hd] at hs'
  exact hs'
theorem GO.lookupG {ops : Array Oper} {rest : List Oper} {o : Oper} {t kt et j : Nat} {y i : Operand} {want cb : Bool} {t0 : Nat → TV} {m : Mem} (x : Nat) (S : Int → Bool) (n : Int) (hp : MpT P t kt et) (hg : o.guard = some (j, want)) (hb : guardB ops t0 j want = some cb) (hop : o.op = .lookup t y i false)
    (hob : AllP (stripObs t0 j want cb (slotsOf o.op.operands.toList))) (hy : evG t0 j want (slotsOf o.op.operands.toList) y = .v (.c (.mp x))) (hi : evG t0 j want (slotsOf o.op.operands.toList) i = .v (.c (.k (.int .i64 n)))) (hx : m x = some (.obj (ISet S))) (hd : dstOk E.N o.dst = true)
    (k : GO P E ops K rest ⟨Sx.putT t0 o.dst (.grd j want cb (.c (.k (.bool (S n))))), m⟩) : GO P E ops K (o :: rest) ⟨t0, m⟩ := by
  refine GO.steps (tv := .grd j want cb (.c (.k (.bool (S n))))) (ms := []) ?_ k
  intro st hle ρ a w hs Kc Q hk
  have hs' := hs.weakT hle.t
  have hw := wanted_cond (ops := ops) hs' hg hb
  rw [hw]
  cases hcb : cb with
  | true =>
    subst hcb
    rw [if_pos rfl]
    have hev := fun y => evG_rep hs' hob rfl y
    have e1 : a.eval y = .map (some (ρ x).1) := by have := hev y; rw [hy] at this; exact this.2
    have e2 : a.eval i = .int .i64 n := by have := hev i; rw [hi] at this; exact this.2
    have hx2 : st.m x = some (.obj (ISet S)) := by
      rcases hle.m x with h | h
      · rw [show (St.mk t0 m).m x = m x from rfl, hx] at h; cases h
      · exact h.trans hx
    obtain ⟨ob, h1, h2⟩ := Sat.mapAt hs.mem hx2
    have hrun : (execOp a.eval o).run P w = .ok (.value (.bool (S n))) w := by
      simp [execOp, hop, e1, e2, run_lookup_set hp h1 h2 n, Result.andThen]
    exact Snd.go hs (dstOk_lt hd) (tv := .grd j want true (.c (.k (.bool (S n))))) (Snd.here hs.mem (v := .bool (S n)) hrun ⟨fun _ => ⟨trivial, rfl⟩, fun hf => by cases hf⟩) fun ρ' a' w' hs'' => hk ρ' a' w' hs''
  | false =>
    subst hcb
    rw [if_neg (by simp)]
    exact hk ρ _ w (hs.putT (dstOk_lt hd) ⟨fun hf => (by cases hf), fun _ => rfl⟩)
theorem Steps.mapNew {ops : Array Oper} {o : Oper} {t kt et : Nat} {y i : Operand} {C : St} (x : Nat) (S S2 : Int → Bool) (n : Int) (hp : MpT P t kt et) (hg : o.guard = none) (hop : o.op = .mapUpdate t y i (.const (.bool true))) (hd : o.dst = none)
    (hy : evT C.t y = .v (.c (.mp x))) (hi : evT C.t i = .v (.c (.k (.int .i64 n)))) (hx : C.m x = some (.obj (ISet S))) (hn : S n = false) (hS : ∀ q, S2 q = (S q || (q == n))) : Steps P E ops o C .unk [(x, .obj (ISet S2))] := by
  intro st hle ρ a w hs Kc Q hk
  have hs' := hs.weakT hle.t
  rw [if_pos (by simp [Region.wanted, hg])]
  have e1 : a.eval y = .map (some (ρ x).1) := by have := hs'.eval y; rw [show (St.mk C.t st.m).ev y = .v (.c (.mp x)) from hy] at this; exact this.2
  have e2 : a.eval i = .int .i64 n := by have := hs'.eval i; rw [show (St.mk C.t st.m).ev i = .v (.c (.k (.int .i64 n))) from hi] at this; exact this.2
  have hx2 : st.m x = some (.obj (ISet S)) := by
    rcases hle.m x with h | h
    · rw [hx] at h; cases h
    · exact h.trans hx
  obtain ⟨ob, h1, h2⟩ := Sat.mapAt hs.mem hx2
  obtain ⟨o', h3, h4⟩ := run_update_set hp h1 h2 hn hS
  have hrun : (execOp a.eval o).run P w = .ok .skip { w with heap := w.heap.setIfInBounds (ρ x).1 o' } := by
    have e3 : a.eval (.const (.bool true)) = .bool true := rfl
    simp [execOp, hop, e1, e2, e3, h3, Result.andThen]
  have hk0 := hs.mem.ok x _ hx2
  have hlt := lt_of_heap h1
  have hmem : SatM E ρ (up st.m x (some (.obj (ISet S2)))) { w with heap := w.heap.setIfInBounds (ρ x).1 o' } := by
    refine hs.mem.put hx2 trivial trivial ⟨hs.mem.fr.os, hs.mem.fr.tape, hs.mem.fr.output, by simpa using hs.mem.fr.size, fun g hg1 hg2 => ?_⟩ (by simp) (fun g hg => ?_) ⟨hk0.1, hk0.2.1, o', ?_, h4⟩
    · have hne : (ρ x).1 ≠ g := by
        rcases mem_bor hk0.2.1 with h | h
        · omega
        · exact fun e => hg2 (e ▸ h)
      simp only [Array.getElem?_setIfInBounds_ne hne]
      exact hs.mem.fr.block g hg1 hg2
    · simp only [Array.getElem?_setIfInBounds_ne (Ne.symm hg)]
    · simp [Array.getElem?_setIfInBounds, hlt]
  have hsome : ∀ z, (st.m z).isSome = true → (up st.m x (some (.obj (ISet S2))) z).isSome = true := fun z hz => isSome_up z hz
  unfold Oper.wp
  rw [hrun]
  refine hk ρ _ _ ?_
  rw [upm_one]
  exact (hs.move hmem hsome fun _ _ => rfl).putT (fun q hq => by rw [hd] at hq; cases hq) (tv := .unk) trivial
theorem GD.mapNew {l : List Oper} {cls : List Nat} {X : List (Nat × Nat)} {base : St} {recs : List DR} {rest : List Oper} {tt : Nat → TV} {m : Mem} {o : Oper} {t kt et : Nat} {y ix : Operand} (x : Nat) (S S2 : Int → Bool) (n : Int) (i : Nat) (hi : recs.length = i) (hp : MpT P t kt et) (hg : o.guard = none) (hop : o.op = .mapUpdate t y ix (.const (.bool true))) (hd : o.dst = none)
    (hy : evT (canF l cls X base i recs).t y = .v (.c (.mp x))) (hix : evT (canF l cls X base i recs).t ix = .v (.c (.k (.int .i64 n)))) (hx : (canF l cls X base i recs).m x = some (.obj (ISet S))) (hn : S n = false) (hS : ∀ q, S2 q = (S q || (q == n))) (hw : Wok X i o [(x, .obj (ISet S2))] = true)
    (k : GD P E K l cls X base (⟨o, .unk, [(x, .obj (ISet S2))]⟩ :: recs) rest (Sx.putT tt o.dst .unk) (upm m [(x, .obj (ISet S2))])) : GD P E K l cls X base recs (o :: rest) tt m := by
  rw [canF_eq hi] at hy hix hx
  exact GD.step (Steps.mapNew x S S2 n hp hg hop hd hy hix hx hn hS) (by rw [hi]; exact hw) k
end
end Go.Sx
/- Chapter 37: what the law MatchProves asks of a matching. -/
set_option linter.unusedVariables false
set_option linter.unusedSimpArgs false
set_option maxRecDepth 8000
set_option maxHeartbeats 1000000
namespace Go.Proofs.Ytpoalimbjeehkaa
open Go.Sx Go.RowKit Mt
def badV (l p : List EI) (k : Nat) : Bool := (!(l.any (eqE (p.getD k (0, 0)))) || dupL p k (p.getD k (0, 0)).1) || dupR p k (p.getD k (0, 0)).2
def provesB (l p : List EI) (L R : List Int) : Bool := !((List.range' 0 p.length).any (badV l p)) && (!(l.any (freeB L R)) && ((L.length : Int) + (R.length : Int) == (p.length : Int)))
theorem beqc (x q : Int) : (x == q) = (q == x) := by
  rw [Bool.eq_iff_iff]
  simp only [beq_iff_eq]
  omega
end Go.Proofs.Ytpoalimbjeehkaa
/- Chapter 37: the law MatchProves. -/
set_option linter.unusedVariables false
set_option linter.unusedSimpArgs false
set_option maxRecDepth 8000
set_option maxHeartbeats 1000000
namespace Go.Proofs.Ytpoalimbjeehkaa
open Go.Sx Go.RowKit Mt
structure Vf (n m : Int) (l p : List EI) (L R : List Int) : Prop where
  check : checkM n m l = 0
  pairs : pairsB l p = true
  free : l.any (freeB L R) = false
  len : (p.length : Int) = (L.length : Int) + (R.length : Int)
theorem vf_of {n m : Int} {l p : List EI} {L R : List Int} (h : verifyM n m l p L R = 0) : Vf n m l p L R := by
  unfold verifyM at h
  split at h
  · cases h
  rename_i h0
  split at h
  · cases h
  rename_i h1
  simp only [Bool.or_eq_true, Bool.not_eq_true', not_or, Bool.not_eq_false, Bool.not_eq_true, bne_iff_ne, Decidable.not_not] at h1
  exact ⟨by simpa using h0, h1.1.1.1.1, h1.1.2, h1.2⟩
theorem pairs_at {l p : List EI} (h : pairsB l p = true) (k : Nat) (hk : k < p.length) : badP l p k = false := by
  unfold pairsB at h
  rw [Bool.not_eq_true', List.any_eq_false] at h
  have := h k (by simp [List.mem_range']; omega)
  simpa using this
theorem Vf.proves {n m : Int} {l p : List EI} {L R : List Int} (h : Vf n m l p L R) : provesB l p L R = true := by
  have h1 : (List.range' 0 p.length).any (badV l p) = false := by
    rw [List.any_eq_false]
    intro k hk
    have hk : k < p.length := by have := (List.mem_range'_1.1 hk).2; omega
    have := pairs_at h.pairs k hk
    unfold badP at this
    rw [Bool.or_eq_false_iff] at this
    rw [badV, this.1]
    exact Bool.false_ne_true
  rw [provesB, h1, h.free, h.len]
  simp
theorem Vf.size {n m : Int} {l p : List EI} {L R : List Int} (h : Vf n m l p L R) : (sizeA n m l).1 = (p.length : Int) := by
  have ok := check_ok h.check
  obtain ⟨Lg, hLg⟩ : ∃ Lg, Lg = toEg l := ⟨_, rfl⟩
  rw [← hLg] at ok
  have hl := ok.hl
  have mem : ∀ k, k < p.length → ∃ g ∈ Lg, p.getD k (0, 0) = ((g.1 : Int), (g.2 : Int)) := by
    intro k hk
    have := pairs_at h.pairs k hk
    unfold badP at this
    simp only [Bool.or_eq_false_iff, Bool.not_eq_false'] at this
    obtain ⟨e, he, h2⟩ := List.any_eq_true.1 this.1.1.1
    rw [hl] at he
    obtain ⟨g, hg, rfl⟩ := List.mem_map.1 he
    simp only [eqE, Bool.and_eq_true, beq_iff_eq] at h2
    exact ⟨g, hg, Prod.ext h2.1 h2.2⟩
  have gd : ∀ k (hk : k < p.length), p.getD k (0, 0) = p[k] := fun k hk => by rw [List.getD_eq_getElem?_getD, List.getElem?_eq_getElem hk]; rfl
  have hp : Pairs Lg (toEg p) := by
    refine ⟨fun e he => ?_, ?_, ?_⟩
    · obtain ⟨x, hx, rfl⟩ := List.mem_map.1 he
      obtain ⟨k, hk, rfl⟩ := List.mem_iff_getElem.1 hx
      obtain ⟨g, hg, e⟩ := mem k hk
      rw [gd k hk] at e
      rw [e]
      simpa using hg
    · rw [List.Nodup, List.pairwise_iff_getElem]
      intro i j hi hj hij
      have hi' : i < p.length := by simpa [toEg] using hi
      have hj' : j < p.length := by simpa [toEg] using hj
      obtain ⟨g1, _, e1⟩ := mem i hi'
      obtain ⟨g2, _, e2⟩ := mem j hj'
      have hb := pairs_at h.pairs j hj'
      unfold badP at hb
      simp only [Bool.or_eq_false_iff] at hb
      have hd := List.any_eq_false.1 hb.1.1.2 i (List.mem_range.2 hij)
      rw [e1, e2] at hd
      simp only [beq_iff_eq] at hd
      rw [gd i hi'] at e1
      rw [gd j hj'] at e2
      simp only [toEg, List.getElem_map, e1, e2]
      omega
    · rw [List.Nodup, List.pairwise_iff_getElem]
      intro i j hi hj hij
      have hi' : i < p.length := by simpa [toEg] using hi
      have hj' : j < p.length := by simpa [toEg] using hj
      obtain ⟨g1, _, e1⟩ := mem i hi'
      obtain ⟨g2, _, e2⟩ := mem j hj'
      have hb := pairs_at h.pairs j hj'
      unfold badP at hb
      simp only [Bool.or_eq_false_iff] at hb
      have hd := List.any_eq_false.1 hb.1.2 i (List.mem_range.2 hij)
      rw [e1, e2] at hd
      simp only [beq_iff_eq] at hd
      rw [gd i hi'] at e1
      rw [gd j hj'] at e2
      simp only [toEg, List.getElem_map, e1, e2]
      omega
  have hc : Cover Lg (L.map Int.toNat) (R.map Int.toNat) := by
    intro e he
    have hm : ((e.1 : Int), (e.2 : Int)) ∈ l := by rw [hl]; exact List.mem_map.2 ⟨e, he, rfl⟩
    have := List.any_eq_false.1 h.free _ hm
    simp only [freeB, Bool.and_eq_true, Bool.not_eq_true', not_and, Bool.not_eq_false] at this
    by_cases h1 : (L.any fun y => (e.1 : Int) == y) = true
    · obtain ⟨y, hy, hq⟩ := List.any_eq_true.1 h1
      simp only [beq_iff_eq] at hq
      exact .inl (List.mem_map.2 ⟨y, hy, by omega⟩)
    · obtain ⟨y, hy, hq⟩ := List.any_eq_true.1 (this (by rw [Bool.not_eq_true] at h1; exact h1))
      simp only [beq_iff_eq] at hq
      exact .inr (List.mem_map.2 ⟨y, hy, by omega⟩)
  have hl2 : (toEg p).length = p.length := by simp [toEg]
  have hmax : IsMax Lg p.length := ⟨⟨_, hp, hl2⟩, _, _, hc, by have := h.len; simp; omega⟩
  have := ok.best.max.unique hmax
  rw [sizeA, if_neg (by simp [h.check])]
  simp only [msOf, ← hLg]
  omega
theorem pairsB_cast {Lg P : List Eg} (h : Pairs Lg P) (hu : (P.map (·.1)).Pairwise (· < ·)) : pairsB (castL Lg) (castL P) = true := by
  have gd : ∀ k (hk : k < P.length), P.getD k (0, 0) = P[k] := fun k hk => by rw [List.getD_eq_getElem?_getD, List.getElem?_eq_getElem hk]; rfl
  have lt : ∀ i j, i < j → j < P.length → (P.getD i (0, 0)).1 < (P.getD j (0, 0)).1 := fun i j hij hj => by
    have := List.pairwise_iff_getElem.1 hu i j (by simp; omega) (by simpa using hj) hij
    rw [gd i (by omega), gd j hj]
    simpa using this
  have ne : ∀ i j, i < j → j < P.length → (P.getD i (0, 0)).2 ≠ (P.getD j (0, 0)).2 := fun i j hij hj => by
    have := List.pairwise_iff_getElem.1 h.rgt i j (by simp; omega) (by simpa using hj) hij
    rw [gd i (by omega), gd j hj]
    simpa using this
  unfold pairsB
  rw [Bool.not_eq_true', List.any_eq_false]
  intro k hk
  have hk : k < P.length := by
    have := (List.mem_range'_1.1 hk).2
    rw [castL_len] at this
    omega
  rw [Bool.not_eq_true]
  unfold badP
  simp only [getD_cast, Bool.or_eq_false_iff, Bool.not_eq_false', Bool.and_eq_false_iff, decide_eq_false_iff_not]
  refine ⟨⟨⟨?_, ?_⟩, ?_⟩, ?_⟩
  · refine List.any_eq_true.2 ⟨_, List.mem_map.2 ⟨P.getD k (0, 0), h.sub _ (by rw [gd k hk]; exact List.getElem_mem hk), rfl⟩, ?_⟩
    simp [eqE]
  · rw [dupL, List.any_eq_false]
    intro i hi
    have := lt i k (List.mem_range.1 hi) hk
    rw [getD_cast]
    simp only [beq_iff_eq]
    omega
  · rw [dupR, List.any_eq_false]
    intro i hi
    have := ne i k (List.mem_range.1 hi) hk
    rw [getD_cast]
    simp only [beq_iff_eq]
    omega
  · by_cases h0 : 0 < k
    · have := lt (k - 1) k (by omega) hk
      exact .inr (by omega)
    · exact .inl (by omega)
theorem own_verify {n m : Int} {l : List EI} (h : checkM n m l = 0) : verifyM n m l (castL (matchA n m l).1) (castI (matchA n m l).2.1) (castI (matchA n m l).2.2.1) = 0 ∧ (matchA n m l).2.2.2 = 0 := by
  have ok := check_ok h
  obtain ⟨hN, hM⟩ : n.toNat ≤ 24 ∧ m.toNat ≤ 24 := ⟨ok.hN, ok.hM⟩
  have hA : matchA n m l = (pairsM (matched n.toNat (toEg l)), coverL n.toNat (toEg l), coverR n.toNat m.toNat (toEg l), 0) := by
    rw [matchA, if_neg (by simp [h])]
    rfl
  obtain ⟨hp, hpl⟩ := ok.best.pairs
  obtain ⟨hc, hcl⟩ := ok.best.cover
  have hl := ok.hl
  have hu : ((pairsM (matched n.toNat (toEg l))).map (·.1)).Pairwise (· < ·) := by
    unfold pairsM
    rw [List.map_map]
    have : ((fun e : Eg => e.1) ∘ fun i => (i, (matched n.toNat (toEg l)).left i - 1)) = id := rfl
    rw [this, List.map_id]
    exact List.Pairwise.filter _ List.pairwise_lt_range
  have b1 := pairsB_cast hp hu
  rw [← hl] at b1
  have b2 : ascB (castI (coverL n.toNat (toEg l))) n = true := by
    have := asc_cast (N := n.toNat) (where_up (reached n.toNat (toEg l) (matched n.toNat (toEg l))).a n.toNat false) fun x hx => ((where_mem hN _ _).1 hx).1
    rw [← ok.hn] at this
    exact this
  have b3 : ascB (castI (coverR n.toNat m.toNat (toEg l))) m = true := by
    have := asc_cast (N := m.toNat) (where_up (reached n.toNat (toEg l) (matched n.toNat (toEg l))).b m.toNat true) fun x hx => ((where_mem hM _ _).1 hx).1
    rw [← ok.hm] at this
    exact this
  have b4 : l.any (freeB (castI (coverL n.toNat (toEg l))) (castI (coverR n.toNat m.toNat (toEg l)))) = false := by
    rw [List.any_eq_false]
    intro e he
    rw [hl] at he
    obtain ⟨g, hg, rfl⟩ := List.mem_map.1 he
    simp only [freeB, castI_any]
    rcases hc g hg with h1 | h1 <;> simp [h1]
  rw [hA]
  refine ⟨?_, rfl⟩
  rw [verifyM, if_neg (by simp [h])]
  simp only
  rw [b1, b2, b3, b4, if_neg]
  rw [castL_len, castI_len, castI_len]
  simp
  omega
theorem own_bad {n m : Int} {l : List EI} (h : checkM n m l ≠ 0) : matchA n m l = ([], [], [], 1) ∧ sizeA n m l = (0, 1) := by
  have : (checkM n m l != 0) = true := by simpa using h
  rw [matchA, sizeA, if_pos this, if_pos this]
  exact ⟨rfl, rfl⟩
theorem own_good {n m : Int} {l : List EI} (h : checkM n m l = 0) : (sizeA n m l).2 = 0 := by
  rw [sizeA, if_neg (by simp [h])]
theorem MatchI_any (n m : Int) (A : Option Addr) (c : Nat) (l : List EI) (w : World) (hl : RdRow w A l.length 2 (elE l)) (hm : l.length ≤ 1000000) :
    Calls Try.prog 48 #[I n, I m, .slice A l.length c] w fun e w' => Ans w w' [.agg [.r (castL (matchA n m l).1).length 2 (elE (castL (matchA n m l).1)), .r (castI (matchA n m l).2.1).length 1 (elI (castI (matchA n m l).2.1)), .r (castI (matchA n m l).2.2.1).length 1 (elI (castI (matchA n m l).2.2.1))], .c (.p (I (matchA n m l).2.2.2))] e ∧ Below w.heap.size w w' := by
  have := Match_any n m A c l w hl hm
  simp only [elW_eq, elG_eq] at this
  simp only [castL_len, castI_len]
  exact this
theorem own_small (n m : Int) (l : List EI) : (matchA n m l).1.length ≤ 24 ∧ (matchA n m l).2.1.length ≤ 24 ∧ (matchA n m l).2.2.1.length ≤ 24 := by
  have wl : ∀ f : Nat → Bool, ∀ k v, (whereM f k v).length ≤ 24 := fun f k v => by
    have := List.length_filter_le (fun i => decide (i < k) && (f i == v)) (List.range 24)
    rw [List.length_range] at this
    exact this
  unfold matchA
  split
  · simp
  · refine ⟨?_, wl _ _ _, wl _ _ _⟩
    simp only [pairsM, List.length_map]
    have := List.length_filter_le (fun i => decide ((msOf n l).left i > 0)) (List.range 24)
    rw [List.length_range] at this
    exact this
end Go.Proofs.Ytpoalimbjeehkaa
/- The symbolic executor, part AG: rows of ours that calls make and turn (slices.Clone, slices.Delete), a row's own tail moved down, its rest cleared. Generic over P. -/
set_option linter.unusedVariables false
set_option linter.unusedSimpArgs false
namespace Go.Sx
open Go.RowKit
/-- A call answers with a row of its own. -/
def OwnNew (w w' : World) (e : Ending) (ty : TypeId) (n sz : Nat) (el : Nat → List Value) : Prop := ∃ b c, e = .returned (.slice (some ⟨b, 0, none⟩) n c) ∧ n ≤ c ∧ w.heap.size ≤ b ∧ OwnAt w' b ty n sz el 0
def rowMo (m : Mem) (x : Nat) (ty : TypeId) (n sz : Nat) (el : Nat → List Value) : Mem := up (up m x (some (.arr ty sz n el 0))) (x + 50) (some (.ro 0 0 fun _ => []))
section
variable {P : Program} {E : Env} {K : Exit → St → Prop} {T : Tab}
theorem SatM.addOwnRow {ρ : Val} {m : Mem} {w w' : World} (h : SatM E ρ m w) (hbl : Below w.heap.size w w') {x n sz b c : Nat} {ty : TypeId} {el : Nat → List Value} (hx : m x = none) (hx2 : m (x + 50) = none) (hxb : Nat.blt (x + 50) 1000 = true) (hge : w.heap.size ≤ b) (ho : OwnAt w' b ty n sz el 0) (hc : n ≤ c) :
    ∃ ρ' : Val, (∀ y, (m y).isSome = true → ρ' y = ρ y) ∧ SatM E ρ' (rowMo m x ty n sz el) w' ∧ AC.ok ρ' (rowMo m x ty n sz el) (.row x n E.w0.heap.size) ∧ AC.conc ρ' (.row x n E.w0.heap.size) = .slice (some ⟨b, 0, none⟩) n c := by
  have hxb : x + 50 < 1000 := by simpa [Nat.blt_eq] using hxb
  obtain ⟨ρ', hρ'⟩ : ∃ ρ' : Val, ρ' = up (up ρ x (b, 0)) (x + 50) (c, 1) := ⟨_, rfl⟩
  have e1 : ρ' x = (b, 0) := by rw [hρ', up_other _ _ (by omega), up_same]
  have e2 : ρ' (x + 50) = (c, 1) := by rw [hρ', up_same]
  have e3 : ∀ y, y ≠ x → y ≠ x + 50 → ρ' y = ρ y := fun y h1 h2 => by rw [hρ', up_other _ _ h2, up_other _ _ h1]
  have hρ : ∀ y, (m y).isSome = true → ρ' y = ρ y := fun y hy => e3 y (fun e => by subst e; simp [hx] at hy) (fun e => by subst e; simp [hx2] at hy)
  have hm : ∀ y d, rowMo m x ty n sz el y = some d → (y = x + 50 ∧ d = .ro 0 0 fun _ => []) ∨ (y = x ∧ d = .arr ty sz n el 0) ∨ (y ≠ x ∧ y ≠ x + 50 ∧ m y = some d) := by
    intro y d hy
    unfold rowMo at hy
    by_cases h1 : y = x + 50
    · subst h1; rw [up_same] at hy; injection hy with hy; exact .inl ⟨rfl, hy.symm⟩
    · rw [up_other _ _ h1] at hy
      by_cases h2 : y = x
      · subst h2; rw [up_same] at hy; injection hy with hy; exact .inr (.inl ⟨rfl, hy.symm⟩)
      · rw [up_other _ _ h2] at hy; exact .inr (.inr ⟨h2, h1, hy⟩)
  have hsome : ∀ y, (m y).isSome = true → (rowMo m x ty n sz el y).isSome = true := fun y hy => isSome_up y (isSome_up y hy)
  have h' := h.below hbl
  refine ⟨ρ', hρ, ⟨h'.fr, fun r hr => ?_, fun y d hy => ?_, fun y z d f hy hz hd hf hne => ?_⟩, ⟨?_, ?_, fun h0 => ⟨by rw [e2]; exact Nat.one_ne_zero, by rw [e1]; exact Nat.le_trans h.fr.size hge⟩, by rw [e2]; exact hc⟩, ?_⟩
  · have := h.bo r hr
    rw [e3 _ (by omega) (by omega)]; exact this
  · rcases hm y d hy with ⟨rfl, rfl⟩ | ⟨rfl, rfl⟩ | ⟨h1, h2, h3⟩
    · intro h0; omega
    · exact ⟨by rw [e1], .inl (by rw [e1]; exact Nat.le_trans h.fr.size hge), by rw [e1]; exact ho⟩
    · have hk := h'.ok y d h3
      have ey : ρ' y = ρ y := e3 y h1 h2
      cases d with
      | var ty cells =>
        have hcm : cells.map (AC.conc ρ') = cells.map (AC.conc ρ) := List.map_congr_left fun c hm => AC.conc_mono hρ (hk.2.2.2 c hm)
        exact ⟨by rw [ey]; exact hk.1, by rw [ey]; exact hk.2.1, by rw [ey, hcm]; exact hk.2.2.1, fun c hc => AC.ok_mono hsome hρ (hk.2.2.2 c hc)⟩
      | arr ty sz n el room =>
        obtain ⟨k1, k2, a, ha, hs, he⟩ := hk
        exact ⟨by rw [ey]; exact k1, by rw [ey]; exact k2, a, by rw [ey]; exact ha, hs, he⟩
      | obj Q =>
        obtain ⟨k1, k2, a, ha, hs⟩ := hk
        exact ⟨by rw [ey]; exact k1, by rw [ey]; exact k2, a, by rw [ey]; exact ha, hs⟩
      | ro sz n el =>
        intro hn
        rw [ey]
        exact hk hn
  · rcases hm y d hy with ⟨rfl, rfl⟩ | ⟨rfl, rfl⟩ | ⟨h1, h2, h3⟩
    · exact hd.elim
    · rcases hm z f hz with ⟨rfl, rfl⟩ | ⟨rfl, rfl⟩ | ⟨k1, k2, k3⟩
      · exact absurd hf (Nat.lt_irrefl 0)
      · exact absurd rfl hne
      · have := h.lt' k3 hf
        rw [e1, e3 z k1 k2]
        show b ≠ _
        omega
    · rcases hm z f hz with ⟨rfl, rfl⟩ | ⟨rfl, rfl⟩ | ⟨k1, k2, k3⟩
      · exact absurd hf (Nat.lt_irrefl 0)
      · have := h.lt h3 hd
        rw [e1, e3 y h1 h2]
        show _ ≠ b
        omega
      · rw [e3 y h1 h2, e3 z k1 k2]
        exact h.ne y z d f h3 k3 hd hf hne
  · unfold rowMo
    rw [up_other _ _ (by omega), up_same]; rfl
  · unfold rowMo
    rw [up_same]; rfl
  · simp [AC.conc, rowAd, e1, e2]
/-- A part of a row of ours that a call has made can be read. -/
theorem SatM.rowA {ρ : Val} {m : Mem} {w : World} (h : SatM E ρ m w) {x n sz n2 g room : Nat} {ty : TypeId} {el : Nat → List Value} (hx : m x = some (.arr ty sz n2 el room)) (ho : AC.ok ρ m (.row x n g)) (hn : n ≤ n2) : RdRow w (rowAd ρ x) n sz el := by
  intro h0
  obtain ⟨h1, _, a, ha, _, he⟩ := h.ok x _ hx
  exact ⟨(ρ x).1, (ρ x).2, if_neg (ho.2.2.1 h0).1, lt_of_heap ha, fun i hi => ⟨(he i (by omega)).1, fun j hj => by rw [h1, Nat.zero_add, cell_of_heap ha]; exact (he i (by omega)).2 j hj⟩⟩
theorem SatM.ownA {ρ : Val} {m : Mem} {w : World} (h : SatM E ρ m w) {x n sz room : Nat} {ty : TypeId} {el : Nat → List Value} (hx : m x = some (.arr ty sz n el room)) : OwnAt w (ρ x).1 ty n sz el 0 := by
  obtain ⟨_, _, a, ha, hs, he⟩ := h.ok x _ hx
  exact ⟨a, ha, by omega, he⟩
theorem SatM.rowAd {ρ : Val} {m : Mem} {w : World} (h : SatM E ρ m w) {x n sz n2 g room : Nat} {ty : TypeId} {el : Nat → List Value} (hx : m x = some (.arr ty sz n2 el room)) (ho : AC.ok ρ m (.row x n g)) (h0 : 0 < n) : rowAd ρ x = some ⟨(ρ x).1, 0, none⟩ := by
  have h1 := (h.ok x _ hx).1
  unfold Sx.rowAd
  rw [if_neg (ho.2.2.1 h0).1, h1]
def msO (x : Nat) (ty : TypeId) (n sz : Nat) (el : Nat → List Value) : List (Nat × Blk) := [(x + 50, .ro 0 0 fun _ => []), (x, .arr ty sz n el 0)]
theorem upm_msO (m : Mem) (x : Nat) (ty : TypeId) (n sz : Nat) (el : Nat → List Value) : upm m (msO x ty n sz el) = rowMo m x ty n sz el := by
  funext y
  simp only [upm, msO, rowMo, up, mget]
  cases Nat.beq y (x + 50) with
  | true => rfl
  | false => cases Nat.beq y x <;> rfl
theorem Steps.callOwnR {ops : Array Oper} {o : Oper} {c : Call} {f : FuncId} {avs : List AV} {caps : List Cap} {C : St} (x : Nat) (ty : TypeId) (n sz : Nat) (el : Nat → List Value) (hg : o.guard = none) (hop : o.op = .call c) (he : callE C.t c = .mk f avs caps) (hd : dstOk E.N o.dst = true) (hx : C.m x = none) (hx2 : C.m (x + 50) = none) (hxb : Nat.blt (x + 50) 1000 = true)
    (hcf : ∀ (args : Array Value) (w : World), (callFunc f args).run P w = .ok (.enter f args) w)
    (hc : ∀ m, LeM C.m m → ∀ ρ w, SatM E ρ m w → (∀ v ∈ avs, v.ok ρ m) → Calls P f (avs.map (AV.conc ρ) ++ caps.map (Cap.conc ρ)).toArray w fun e w' => OwnNew w w' e ty n sz el ∧ Below w.heap.size w w') :
    Steps P E ops o C (.v (.c (.row x n E.w0.heap.size))) (msO x ty n sz el) := by
  intro st hle ρ a w hs Kc Q hk
  have hs' := hs.weakT hle.t
  obtain ⟨hr, hok, hok2⟩ := call_run hs' hop he hcf
  rw [if_pos (by simp [Region.wanted, hg])]
  unfold Oper.wp
  rw [hr]
  refine (hc st.m hle.m ρ w hs.mem hok).mono ?_
  rintro e w' ⟨⟨b, cp, rfl, h1, h2, h3⟩, hb⟩
  have n1 : st.m x = none := by
    rw [hle.n x (by simp only [msO, mget]; cases Nat.beq x (x + 50) <;> simp)]
    exact hx
  have n2 : st.m (x + 50) = none := by
    rw [hle.n (x + 50) (by simp [msO, mget])]
    exact hx2
  obtain ⟨ρ', k1, k2, k3, k4⟩ := hs.mem.addOwnRow hb n1 n2 hxb h2 h3 h1
  refine hk ρ' _ w' ?_
  rw [upm_msO]
  exact (hs.move k2 (fun y hy => isSome_up y (isSome_up y hy)) k1).putT (dstOk_lt hd) ⟨k3, k4.symm⟩
theorem GD.callOwnR {l : List Oper} {cls : List Nat} {X : List (Nat × Nat)} {base : St} {recs : List DR} {o : Oper} {rest : List Oper} {t : Nat → TV} {m : Mem} {c : Call} {f : FuncId} {avs : List AV} {caps : List Cap} (x : Nat) (ty : TypeId) (n sz : Nat) (el : Nat → List Value) (i : Nat) (hi : recs.length = i) (hg : o.guard = none) (hop : o.op = .call c) (he : callE (canF l cls X base i recs).t c = .mk f avs caps) (hd : dstOk E.N o.dst = true)
    (hx : (canF l cls X base i recs).m x = none) (hx2 : (canF l cls X base i recs).m (x + 50) = none) (hxb : Nat.blt (x + 50) 1000 = true) (hw : Wok X i o (msO x ty n sz el) = true)
    (hcf : ∀ (args : Array Value) (w : World), (callFunc f args).run P w = .ok (.enter f args) w)
    (hc : ∀ m, LeM (canF l cls X base i recs).m m → ∀ ρ w, SatM E ρ m w → (∀ v ∈ avs, v.ok ρ m) → Calls P f (avs.map (AV.conc ρ) ++ caps.map (Cap.conc ρ)).toArray w fun e w' => OwnNew w w' e ty n sz el ∧ Below w.heap.size w w')
    (k : GD P E K l cls X base (⟨o, .v (.c (.row x n E.w0.heap.size)), msO x ty n sz el⟩ :: recs) rest (Sx.putT t o.dst (.v (.c (.row x n E.w0.heap.size)))) (upm m (msO x ty n sz el))) : GD P E K l cls X base recs (o :: rest) t m := by
  rw [canF_eq hi] at he hx hx2 hc
  exact GD.step (Steps.callOwnR x ty n sz el hg hop he hd hx hx2 hxb hcf hc) (by rw [hi]; exact hw) k
/-- A call that turns a row of ours and answers with a part of it. -/
theorem Steps.callTurnR {ops : Array Oper} {o : Oper} {c : Call} {f : FuncId} {avs : List AV} {caps : List Cap} {C : St} (x : Nat) (ty : TypeId) (n n' sz g : Nat) (el el' : Nat → List Value) (hg : o.guard = none) (hop : o.op = .call c) (he : callE C.t c = .mk f avs caps) (hd : dstOk E.N o.dst = true) (hx : C.m x = some (.arr ty sz n el 0)) (hin : .c (.row x n g) ∈ avs) (hn : n' ≤ n)
    (hcf : ∀ (args : Array Value) (w : World), (callFunc f args).run P w = .ok (.enter f args) w)
    (hc : ∀ m, LeM C.m m → ∀ ρ w, SatM E ρ m w → (∀ v ∈ avs, v.ok ρ m) → Calls P f (avs.map (AV.conc ρ) ++ caps.map (Cap.conc ρ)).toArray w fun e w' => e = .returned (AC.conc ρ (.row x n' g)) ∧ Fr w [(ρ x).1] w' ∧ OwnAt w' (ρ x).1 ty n' sz el' 0) :
    Steps P E ops o C (.v (.c (.row x n' g))) [(x, .arr ty sz n' el' 0)] := by
  intro st hle ρ a w hs Kc Q hk
  have hs' := hs.weakT hle.t
  obtain ⟨hr, hok, hok2⟩ := call_run hs' hop he hcf
  rw [if_pos (by simp [Region.wanted, hg])]
  unfold Oper.wp
  rw [hr]
  refine (hc st.m hle.m ρ w hs.mem hok).mono ?_
  rintro e w' ⟨rfl, hf, hn2⟩
  have hl : ownL C.m [⟨x, .arr ty sz n' el' 0⟩] := ⟨⟨_, hx, trivial⟩, trivial⟩
  have hm := hs.mem.turnL (ownL_le hle.m hl) (l := [⟨x, .arr ty sz n' el' 0⟩]) trivial hf ⟨hn2, trivial⟩
  have hr0 : AC.ok ρ st.m (.row x n g) := hok _ hin
  have hr1 : AC.ok ρ (turnedB st.m [⟨x, .arr ty sz n' el' 0⟩]) (.row x n' g) := by
    obtain ⟨q1, q2, q3, q4⟩ := hr0
    exact ⟨isSome_turnedB _ q1, isSome_turnedB _ q2, fun h0 => q3 (by omega), by omega⟩
  refine hk ρ _ w' ?_
  have e : upm st.m [(x, .arr ty sz n' el' 0)] = turnedB st.m [⟨x, .arr ty sz n' el' 0⟩] := upm_msB st.m [⟨x, .arr ty sz n' el' 0⟩]
  rw [e]
  exact (hs.move hm (fun y hy => isSome_turnedB y hy) (fun _ _ => rfl)).putT (dstOk_lt hd) ⟨hr1, rfl⟩
theorem GD.callTurnR {l : List Oper} {cls : List Nat} {X : List (Nat × Nat)} {base : St} {recs : List DR} {o : Oper} {rest : List Oper} {t : Nat → TV} {m : Mem} {c : Call} {f : FuncId} {avs : List AV} {caps : List Cap} (x : Nat) (ty : TypeId) (n n' sz g : Nat) (el el' : Nat → List Value) (i : Nat) (hi : recs.length = i) (hg : o.guard = none) (hop : o.op = .call c) (he : callE (canF l cls X base i recs).t c = .mk f avs caps) (hd : dstOk E.N o.dst = true)
    (hx : (canF l cls X base i recs).m x = some (.arr ty sz n el 0)) (hin : .c (.row x n g) ∈ avs) (hn : n' ≤ n) (hw : Wok X i o [(x, .arr ty sz n' el' 0)] = true)
    (hcf : ∀ (args : Array Value) (w : World), (callFunc f args).run P w = .ok (.enter f args) w)
    (hc : ∀ m, LeM (canF l cls X base i recs).m m → ∀ ρ w, SatM E ρ m w → (∀ v ∈ avs, v.ok ρ m) → Calls P f (avs.map (AV.conc ρ) ++ caps.map (Cap.conc ρ)).toArray w fun e w' => e = .returned (AC.conc ρ (.row x n' g)) ∧ Fr w [(ρ x).1] w' ∧ OwnAt w' (ρ x).1 ty n' sz el' 0)
    (k : GD P E K l cls X base (⟨o, .v (.c (.row x n' g)), [(x, .arr ty sz n' el' 0)]⟩ :: recs) rest (Sx.putT t o.dst (.v (.c (.row x n' g)))) (upm m [(x, .arr ty sz n' el' 0)])) : GD P E K l cls X base recs (o :: rest) t m := by
  rw [canF_eq hi] at he hx hc
  exact GD.step (Steps.callTurnR x ty n n' sz g el el' hg hop he hd hx hin hn hcf hc) (by rw [hi]; exact hw) k
/-! ### A function that turns a row of its caller's and answers with a part of it -/
def endBwS (T : Tab) (fn : Func) (x sz n c : Nat) (O : List Bw) : Exit → St → Prop := fun e st => (e = .ret ∨ e = .normal) ∧ (∃ r, fn.results.toList = [r] ∧ resOne T st r = .v (.c (.slc x 0 sz n c))) ∧ outAll st.m O
theorem enterBwS (hT : Tab.fine P T) {f : FuncId} {fn : Func} {c : Code} {args : Array Value} {w : World} (x g sz n cp : Nat) (C O : List Bw) (hf : P.funcs[f]? = some fn) (hb : fn.body = some c) (N : Nat) (hN : fn.ntmps = N) (avs : List AV) (l : List Inp) (hr : allRd w l) (hlo : lowI l) (hp : pairsBw C) (hfit : allBw (Bw.fit w (bwV l C) l C) C)
    (hargs : args = (avs.map (AV.conc (bwV l C))).toArray) (hl : Nat.ble avs.length N = true) (ha : allAVb l C avs) (hO : ∀ b ∈ O, ∃ c ∈ C, c.x = b.x ∧ c.g = b.g) (hOc : allBw (fun b => cellsB l C b.b) O) (hxg : ∃ c ∈ C, c.x = x ∧ c.g = g)
    (h : G P ⟨w, bwB C, N⟩ (endBwS T fn x sz n cp O) c ⟨argsT avs, bwM l C⟩) : Calls P f args w fun e w' => e = .returned (.slice (some ⟨g, 0, none⟩) n cp) ∧ Fr w (C.map (·.g)) w' ∧ rawAll (bwV l C) w' O := by
  subst hN
  refine enter (E := ⟨w, bwB C, fn.ntmps⟩) hf hb (bwV l C) (Sat.initBw hr hlo hp hfit ha hargs (Nat.le_of_ble_eq_true hl)) (h.mono fun e st hk => ⟨hk.1, fun ρ a w' hs => ?_⟩)
  obtain ⟨_, ⟨r, hr1, hr2⟩, h2⟩ := hk
  have hρ : ∀ c ∈ C, ρ c.x = (c.g, 0) := fun c hc => (hs.mem.bo (c.x, c.g) (List.mem_map.2 ⟨c, hc, rfl⟩)).1
  obtain ⟨h3, _⟩ := resOne_run hT hs hr2
  refine ⟨_, results_one hr1 h3, ?_, ?_, rawAll_of fun b hb => ?_⟩
  · obtain ⟨c, hc, rfl, rfl⟩ := hxg
    simp [AV.conc, AC.conc, hρ c hc]
  · have := hs.mem.fr
    simp only [bwB, List.map_map] at this
    exact this
  · obtain ⟨c, hc, e1, e2⟩ := hO b hb
    have ho := outAll_mem h2 b hb
    have hbx : ρ b.x = (b.g, 0) := by rw [← e1, ← e2]; exact hρ c hc
    cases hbb : b.b with
    | var ty cells =>
      rw [hbb] at ho
      have hk := (hs.mem.ok b.x _ ho).2.2.1
      have hcells := allBw_mem hOc b hb
      rw [hbb] at hcells
      rw [hbx, conc_bw (fun c hc => (hρ c hc).trans (bw_at (l := l) hp hc).1.symm) hcells] at hk
      exact hk
    | arr ty sz n el room =>
      rw [hbb] at ho
      obtain ⟨el2, room2, h3, h4⟩ := ho
      have hk := (hs.mem.ok b.x _ h3).2.2
      rw [hbx] at hk
      obtain ⟨a, h5, h6, h7⟩ := hk
      exact ⟨a, h5, by omega, fun i hi => by rw [← h4 i hi]; exact h7 i hi⟩
    | ro sz n el => rw [hbb] at ho; exact ho.elim
    | obj Q => rw [hbb] at ho; exact ho.elim
theorem endBwS.ret {fn : Func} {x sz n c : Nat} {O : List Bw} {st : St} {r : ResultVar} (h : fn.results.toList = [r]) (h1 : resOne T st r = .v (.c (.slc x 0 sz n c))) (h2 : outAll st.m O) : endBwS T fn x sz n c O .ret st := ⟨.inl rfl, ⟨r, h, h1⟩, h2⟩
/-! ### Slices with three bounds, the empty end of a slice -/
theorem GO.slice3 (hT : Tab.fine P T) {ops : Array Oper} {rest : List Oper} {o : Oper} {t e x sz n c : Nat} {y lo hi mx : Operand} {dd de : TyD} {t0 : Nat → TV} {m : Mem} (l h q : Int) (hg : o.guard = none) (hop : o.op = .slice t y (some lo) (some hi) (some mx)) (hd : dstOk E.N o.dst = true) (ht : T t = some dd) (hk : dd.kind = .slice e) (he : T e = some de)
    (hy : evT t0 y = .v (.c (.slc x 0 sz n c))) (hlo : evT t0 lo = .v (.c (.k (.int .i64 l)))) (hhi : evT t0 hi = .v (.c (.k (.int .i64 h)))) (hmx : evT t0 mx = .v (.c (.k (.int .i64 q)))) (b0 : 0 ≤ l) (b1 : l ≤ h) (b2 : h ≤ q) (b3 : q ≤ (c : Int))
    (k : GO P E ops K rest ⟨Sx.putT t0 o.dst .unk, m⟩) : GO P E ops K (o :: rest) ⟨t0, m⟩ := by
  intro ρ a w hs
  have hkind := (hT.ok t dd ht).kind
  rw [hk] at hkind
  have hsz := (hT.ok e de he).size w
  have ev := fun z => hs.eval z
  have e1 : ∃ A, a.eval y = .slice A n c := by have := ev y; rw [show (St.mk t0 m).ev y = _ from hy] at this; exact ⟨_, this.2⟩
  obtain ⟨A, e1⟩ := e1
  have e2 : a.eval lo = .int .i64 l := by have := ev lo; rw [show (St.mk t0 m).ev lo = _ from hlo] at this; exact this.2
  have e3 : a.eval hi = .int .i64 h := by have := ev hi; rw [show (St.mk t0 m).ev hi = _ from hhi] at this; exact this.2
  have e4 : a.eval mx = .int .i64 q := by have := ev mx; rw [show (St.mk t0 m).ev mx = _ from hmx] at this; exact this.2
  have eh : (h.toNat : Int) = h := Int.toNat_of_nonneg (by omega)
  have em : (q.toNat : Int) = q := Int.toNat_of_nonneg (by omega)
  have hbd : (Instr.sliceBounds true n c (some (.int .i64 l)) (some (.int .i64 h)) (some (.int .i64 q))).run P w = .ok (l.toNat, h.toNat, q.toNat) w := by
    simp [Instr.sliceBounds, run_sliceBound, *, eh, em, (by omega : 0 ≤ l), (by omega : 0 ≤ h), (by omega : 0 ≤ q)]
  have hrun : ∃ v, (execOp a.eval o).run P w = .ok (.value v) w := by
    refine ⟨.slice (if q.toNat = l.toNat then A else A.map (·.add (l.toNat * de.size))) (h.toNat - l.toNat) (q.toNat - l.toNat), ?_⟩
    simp only [execOp, hop, Instr.sliceAt, Instr.slice, Sem.run_bind, hkind w, Result.andThen_ok, e1, e2, e3, e4, Option.map_some, hbd, hsz, Sem.run_pure]
  obtain ⟨v, hrun⟩ := hrun
  unfold wpList
  rw [if_pos (by simp [Region.wanted, hg])]
  refine .inl ?_
  exact Snd.go hs (dstOk_lt hd) (tv := .unk) (Snd.here hs.mem hrun trivial) fun ρ' a' w' hs'' => k ρ' a' w' hs''
theorem Steps.sliceEnd (hT : Tab.fine P T) {ops : Array Oper} {o : Oper} {t e x n : Nat} {y lo : Operand} {dd de : TyD} {C : St} (hg : o.guard = none) (hop : o.op = .slice t y (some lo) none none) (hd : dstOk E.N o.dst = true) (ht : T t = some dd) (hk : dd.kind = .slice e) (he : T e = some de)
    (hy : evT C.t y = .v (.c (.slc x 0 de.size n n))) (hlo : evT C.t lo = .v (.c (.k (.int .i64 n)))) : Steps P E ops o C (.v (.c (.slc x 0 de.size 0 0))) [] := by
  intro st hle ρ a w hs Kc Q hk2
  have hs' := hs.weakT hle.t
  rw [if_pos (by simp [Region.wanted, hg])]
  have hkind := (hT.ok t dd ht).kind
  rw [hk] at hkind
  have hsz := (hT.ok e de he).size w
  have hy' := hs'.eval y
  rw [show (St.mk C.t st.m).ev y = _ from hy] at hy'
  have e1 : a.eval y = .slice (some ⟨(ρ x).1, (ρ x).2 + 0 * de.size, none⟩) n n := hy'.2
  have e2 : a.eval lo = .int .i64 n := by have := hs'.eval lo; rw [show (St.mk C.t st.m).ev lo = _ from hlo] at this; exact this.2
  have hbd : (Instr.sliceBounds true n n (some (.int .i64 n)) none none).run P w = .ok (n, n, n) w := by
    simp [Instr.sliceBounds, run_sliceBound]
  refine Snd.go hs (dstOk_lt hd) (tv := .v (.c (.slc x 0 de.size 0 0))) (Snd.here hs.mem (v := .slice (some ⟨(ρ x).1, (ρ x).2 + 0 * de.size, none⟩) 0 0) ?_ ⟨hy'.1, rfl⟩) fun ρ' a' w' hs'' => hk2 ρ' a' w' hs''
  simp only [execOp, hop, Instr.sliceAt, Instr.slice, Sem.run_bind, hkind w, Result.andThen_ok, e1, e2, Option.map_some, Option.map_none, hbd, hsz, Sem.run_pure, if_true, Nat.sub_self]
theorem GD.sliceEnd (hT : Tab.fine P T) {l : List Oper} {cls : List Nat} {X : List (Nat × Nat)} {base : St} {recs : List DR} {rest : List Oper} {tt : Nat → TV} {m : Mem} {o : Oper} {t e x n : Nat} {y lo : Operand} {dd de : TyD} (i : Nat) (hi : recs.length = i) (hg : o.guard = none) (hop : o.op = .slice t y (some lo) none none) (hd : dstOk E.N o.dst = true) (ht : T t = some dd) (hk : dd.kind = .slice e) (he : T e = some de)
    (hy : evT (canF l cls X base i recs).t y = .v (.c (.slc x 0 de.size n n))) (hlo : evT (canF l cls X base i recs).t lo = .v (.c (.k (.int .i64 n))))
    (k : GD P E K l cls X base (⟨o, .v (.c (.slc x 0 de.size 0 0)), []⟩ :: recs) rest (Sx.putT tt o.dst (.v (.c (.slc x 0 de.size 0 0)))) m) : GD P E K l cls X base recs (o :: rest) tt m := by
  rw [canF_eq hi] at hy hlo
  exact GD.step (Steps.sliceEnd hT hg hop hd ht hk he hy hlo) rfl k
end
end Go.Sx
/- The symbolic executor, part AH: a row's own tail is appended to its head in place, and its rest cleared. Generic over P. -/
set_option linter.unusedVariables false
set_option linter.unusedSimpArgs false
namespace Go.Sx
open Go.RowKit
theorem mem_flatE {el : Nat → List Value} {u : Value} : ∀ (n i : Nat), u ∈ flatE el i n → ∃ q, i ≤ q ∧ q < i + n ∧ u ∈ el q
  | 0, i, h => by simp [flatE] at h
  | n + 1, i, h => by
    rw [flatE, List.mem_append] at h
    rcases h with h | h
    · exact ⟨i, Nat.le_refl _, by omega, h⟩
    · obtain ⟨q, h1, h2, h3⟩ := mem_flatE n (i + 1) h
      exact ⟨q, by omega, by omega, h3⟩
section
variable {P : Program} {E : Env} {K : Exit → St → Prop} {T : Tab}
theorem SatM.setArr {ρ : Val} {m : Mem} {w : World} (h : SatM E ρ m w) {x sz n room n2 room2 : Nat} {ty : TypeId} {el el2 : Nat → List Value} (hx : m x = some (.arr ty sz n el room)) {cur cs : Array Value} (hg : w.heap[(ρ x).1]? = some (.cells cur ty (0, 0))) (hs : n2 * sz + room2 ≤ cs.size)
    (he : ∀ i, i < n2 → (el2 i).length = sz ∧ ∀ j, j < sz → cs[i * sz + j]? = (el2 i)[j]?) : SatM E ρ (up m x (some (.arr ty sz n2 el2 room2))) (w.setRow (ρ x).1 cs) := by
  obtain ⟨h1, h2, _⟩ := h.ok x _ hx
  exact h.put hx trivial trivial (h.fr.setRow (mem_bor h2) cs) (by simp) (fun g hne => heap_setRow_ne w (ρ x).1 g cs hne) ⟨h1, h2, cs, setRow_heap w (ρ x).1 cur cs ty (0, 0) hg, hs, he⟩
theorem Steps.appendIn {ops : Array Oper} {o : Oper} {s y : Operand} {t e size bytes x n i k j c c2 : Nat} {z : Value} {C : St} {el : Nat → List Value} (el2 : Nat → List Value) (hp : ApT P t e size bytes z) (hg : o.guard = none) (hop : o.op = .call { callee := .builtin .append, args := #[s, y], argTypes := #[t, t] }) (hd : dstOk E.N o.dst = true)
    (hs : evT C.t s = .v (.c (.slc x 0 size i c))) (hy : evT C.t y = .v (.c (.slc x j size k c2))) (hx : C.m x = some (.arr e size n el 0)) (h1 : i + k ≤ c) (h2 : i + k ≤ n) (h3 : j + k ≤ n) (ho : ∀ q, q < n → ∀ u ∈ el q, u.oneCell' = true) (hel : ∀ q, q < i + k → el2 q = if q < i then el q else el (j + (q - i))) :
    Steps P E ops o C (.v (.c (.slc x 0 size (i + k) c))) [(x, .arr e size (i + k) el2 ((n - (i + k)) * size))] := by
  intro st hle ρ a w hsat Kc Q hk
  have hs' := hsat.weakT hle.t
  obtain ⟨inf, hi, hz, hsi, hbi⟩ := hp.info
  rw [if_pos (by simp [Region.wanted, hg])]
  have hx2 : st.m x = some (.arr e size n el 0) := by
    rcases hle.m x with h | h
    · rw [hx] at h; cases h
    · exact h.trans hx
  obtain ⟨hρx, hox, cur, g1, g2, g3⟩ := hsat.mem.ok x _ hx2
  have es : a.eval s = .slice (some ⟨(ρ x).1, 0, none⟩) i c := by
    have := hs'.eval s
    rw [show (St.mk C.t st.m).ev s = _ from hs] at this
    simpa [AV.conc, AC.conc, hρx] using this.2
  have ey : a.eval y = .slice (some ⟨(ρ x).1, j * size, none⟩) k c2 := by
    have := hs'.eval y
    rw [show (St.mk C.t st.m).ev y = _ from hy] at this
    simpa [AV.conc, AC.conc, hρx] using this.2
  have hlen : ∀ q, j ≤ q → q < j + k → (el q).length = size := fun q _ hq => (g3 q (by omega)).1
  have hl := flatE_len (el := el) (sz := size) k j hlen
  have hget : ∀ d, d < k * size → (flatE el j k)[d]? = cur[j * size + d]? := fun d hd => flatE_get (el := el) (sz := size) k j hlen (fun q => cur[q]?) (fun q _ hq d hd => (g3 q (by omega)).2 d hd) d hd
  have hnews : ∀ d u, (flatE el j k)[d]? = some u → w.cell? ((⟨(ρ x).1, j * size, none⟩ : Addr).add d) = some u := by
    intro d u hd
    have hlt : d < k * size := by have := (List.getElem?_eq_some_iff.1 hd).1; omega
    rw [Addr.add_lit, cell_of_heap g1, ← hget d hlt]
    exact hd
  have hone : ∀ u ∈ flatE el j k, u.oneCell' = true := fun u hu => by
    obtain ⟨q, _, hq, hu⟩ := mem_flatE k j hu
    exact ho q (by omega) u hu
  have hcs : i * size + k * size ≤ cur.size := by
    have := Nat.mul_le_mul_right size h2
    rw [Nat.add_mul] at this
    omega
  have hrun := run_append_room (P := P) w t o.type e inf hp.ht hi (ρ x).1 i c cur g1 ⟨(ρ x).1, j * size, none⟩ k c2 (flatE el j k) (by rw [hsi]; exact hl) hnews hone h1 (by rw [hsi, hl]; exact hcs)
  rw [hsi, hl] at hrun
  have hex : (execOp a.eval o).run P w = .ok (.value (.slice (some ⟨(ρ x).1, 0, none⟩) (i + k) c)) (w.setRow (ρ x).1 (cur.toList.take (i * size) ++ flatE el j k ++ cur.toList.drop (i * size + k * size)).toArray) := by
    simp only [List.append_assoc] at hrun
    simp [execOp, hop, resolve, invoke, builtin, es, ey, hrun, Result.andThen]
  have hlt0 : (List.take (i * size) cur.toList).length = i * size := by simp; omega
  have hmem := hsat.mem.setArr hx2 (n2 := i + k) (room2 := (n - (i + k)) * size) (el2 := el2) (cs := (cur.toList.take (i * size) ++ flatE el j k ++ cur.toList.drop (i * size + k * size)).toArray) g1 (by
    simp only [List.size_toArray, List.length_append, hlt0, hl, List.length_drop, Array.length_toList]
    have : (i + k) * size + (n - (i + k)) * size = n * size := by rw [← Nat.add_mul]; congr 1; omega
    rw [this]
    rw [Nat.add_zero] at g2
    omega) fun q hq => by
    rw [hel q hq]
    by_cases h : q < i
    · rw [if_pos h]
      refine ⟨(g3 q (by omega)).1, fun d hd => ?_⟩
      have hlt : q * size + d < i * size := by
        have := Nat.mul_le_mul_right size (show q + 1 ≤ i from h)
        rw [Nat.add_mul] at this
        omega
      rw [← (g3 q (by omega)).2 d hd]
      simp only [List.getElem?_toArray]
      rw [List.append_assoc, List.getElem?_append_left (by rw [hlt0]; exact hlt), List.getElem?_take, if_pos hlt]
      simp
    · rw [if_neg h]
      refine ⟨(g3 _ (by omega)).1, fun d hd => ?_⟩
      have e1 : q * size + d = i * size + ((q - i) * size + d) := by
        have : q * size = i * size + (q - i) * size := by rw [← Nat.add_mul]; congr 1; omega
        omega
      have hlt : (q - i) * size + d < k * size := by
        have := Nat.mul_le_mul_right size (show (q - i) + 1 ≤ k by omega)
        rw [Nat.add_mul] at this
        omega
      rw [← (g3 (j + (q - i)) (by omega)).2 d hd]
      simp only [List.getElem?_toArray]
      rw [List.append_assoc, List.getElem?_append_right (by rw [hlt0]; omega), hlt0, List.getElem?_append_left (by rw [hl]; omega), show q * size + d - i * size = (q - i) * size + d by omega, hget _ hlt]
      congr 1
      rw [Nat.add_mul]
      omega
  unfold Oper.wp
  rw [hex]
  refine hk ρ _ _ ?_
  rw [upm_one]
  refine (hsat.move hmem (fun q hq => isSome_up q hq) fun _ _ => rfl).putT (dstOk_lt hd) (tv := .v (.c (.slc x 0 size (i + k) c))) ⟨?_, ?_⟩
  · show (up st.m x _ x).isSome = true
    rw [up_same]; rfl
  · simp [AV.conc, AC.conc, hρx]
theorem GD.appendIn {l : List Oper} {cls : List Nat} {X : List (Nat × Nat)} {base : St} {recs : List DR} {rest : List Oper} {tt : Nat → TV} {m : Mem} {o : Oper} {s y : Operand} {t e size bytes x n i k j c c2 : Nat} {z : Value} {el : Nat → List Value} (el2 : Nat → List Value) (r : Nat) (hi : recs.length = r) (hp : ApT P t e size bytes z) (hg : o.guard = none) (hop : o.op = .call { callee := .builtin .append, args := #[s, y], argTypes := #[t, t] }) (hd : dstOk E.N o.dst = true)
    (hs : evT (canF l cls X base r recs).t s = .v (.c (.slc x 0 size i c))) (hy : evT (canF l cls X base r recs).t y = .v (.c (.slc x j size k c2))) (hx : (canF l cls X base r recs).m x = some (.arr e size n el 0)) (hw : Wok X r o [(x, .arr e size (i + k) el2 ((n - (i + k)) * size))] = true) (h1 : i + k ≤ c) (h2 : i + k ≤ n) (h3 : j + k ≤ n) (ho : ∀ q, q < n → ∀ u ∈ el q, u.oneCell' = true) (hel : ∀ q, q < i + k → el2 q = if q < i then el q else el (j + (q - i)))
    (kk : GD P E K l cls X base (⟨o, .v (.c (.slc x 0 size (i + k) c)), [(x, .arr e size (i + k) el2 ((n - (i + k)) * size))]⟩ :: recs) rest (Sx.putT tt o.dst (.v (.c (.slc x 0 size (i + k) c)))) (upm m [(x, .arr e size (i + k) el2 ((n - (i + k)) * size))])) : GD P E K l cls X base recs (o :: rest) tt m := by
  rw [canF_eq hi] at hs hy hx
  exact GD.step (Steps.appendIn el2 hp hg hop hd hs hy hx h1 h2 h3 ho hel) (by rw [hi]; exact hw) kk
/-- One operation of a region that draws, by itself. -/
theorem GD.op1 (hT : Tab.fine P T) {l : List Oper} {cls : List Nat} {X : List (Nat × Nat)} {base : St} {recs : List DR} {rest : List Oper} {tt : Nat → TV} {m m' : Mem} {o : Oper} {tv : TV} {obs : List Prop} (i : Nat) (hi : recs.length = i) (h : stepE T E.N l.toArray (canF l cls X base i recs).t (canF l cls X base i recs).m o = .ok tv m' obs) (ho : AllP obs) (hms : msS (canF l cls X base i recs) o m' = [])
    (k : GD P E K l cls X base (⟨o, tv, []⟩ :: recs) rest (Sx.putT tt o.dst tv) m) : GD P E K l cls X base recs (o :: rest) tt m := by
  rw [canF_eq hi] at h hms
  have := Steps.op (P := P) (E := E) hT h ho
  rw [hms] at this
  exact GD.step this rfl k
theorem GO.clear {ops : Array Oper} {rest : List Oper} {o : Oper} {y : Operand} {t e size bytes x n i k c room : Nat} {z : Value} {t0 : Nat → TV} {m : Mem} {el : Nat → List Value} (hp : ApT P t e size bytes z) (hg : o.guard = none) (hop : o.op = .call { callee := .builtin .clear, args := #[y], argTypes := #[t] }) (hd : o.dst = none)
    (hy : evT t0 y = .v (.c (.slc x i size k c))) (hx : m x = some (.arr e size n el room)) (hk0 : 0 < k) (hni : n ≤ i) (hfit : (i + k) * size ≤ n * size + room) (hz : ∀ w : World, (zeroValue e).run P w = .ok z w) (h1 : ∀ u ∈ z.cells.toList, u.oneCell' = true)
    (kk : GO P E ops K rest ⟨t0, m⟩) : GO P E ops K (o :: rest) ⟨t0, m⟩ := by
  intro ρ a w hsat
  obtain ⟨hρx, hox, cur, g1, g2, g3⟩ := hsat.mem.ok x _ hx
  have ey : a.eval y = .slice (some ⟨(ρ x).1, i * size, none⟩) k c := by
    have := hsat.eval y
    rw [show (St.mk t0 m).ev y = _ from hy] at this
    simpa [AV.conc, AC.conc, hρx] using this.2
  obtain ⟨zs, hzs⟩ : ∃ zs, zs = (Builtin.zeroCells z.cells k).toList := ⟨_, rfl⟩
  have hzl : zs.length = k * size := by rw [hzs, Array.length_toList, size_zeroCells, hp.hz]
  have hz1 : ∀ u ∈ zs, u.oneCell' = true := by
    intro u hu
    rw [hzs] at hu
    simp only [Builtin.zeroCells, Array.toList_map, List.mem_map] at hu
    obtain ⟨q, _, rfl⟩ := hu
    have hlt : q % z.cells.size < z.cells.size := Nat.mod_lt _ (by rw [hp.hz]; exact hp.pos)
    rw [getElem!_pos z.cells _ hlt]
    exact h1 _ (Array.getElem_mem_toList hlt)
  have hst := run_storeCells_at P (ρ x).1 (i * size) e zs 0 cur w g1 (by rw [hzl]; rw [Nat.add_mul] at hfit; omega) hz1
  simp only [Nat.add_zero] at hst
  have hrun : (execOp a.eval o).run P w = .ok (.value (.tuple #[])) (w.setRow (ρ x).1 (cur.toList.take (i * size) ++ zs ++ cur.toList.drop (i * size + zs.length)).toArray) := by
    obtain ⟨k', rfl⟩ : ∃ k', k = k' + 1 := ⟨k - 1, by omega⟩
    simp [execOp, hop, resolve, invoke, builtin, ey, Builtin.clear_, run_underlying hp.ht, hz, ← hzs, hst, Result.andThen]
  have hmem := hsat.mem.setArr hx (n2 := n) (room2 := room) (el2 := el) (cs := (cur.toList.take (i * size) ++ zs ++ cur.toList.drop (i * size + zs.length)).toArray) g1 (by
    simp only [List.size_toArray, List.length_append, List.length_take, List.length_drop, Array.length_toList, hzl]
    rw [Nat.add_mul] at hfit
    omega) fun q hq => by
    refine ⟨(g3 q hq).1, fun d hd => ?_⟩
    have hlt : q * size + d < i * size := by
      have := Nat.mul_le_mul_right size (show q + 1 ≤ i by omega)
      rw [Nat.add_mul] at this
      omega
    rw [← (g3 q hq).2 d hd]
    simp only [List.getElem?_toArray]
    rw [List.append_assoc, List.getElem?_append_left (by simp; rw [Nat.add_mul] at hfit; omega), List.getElem?_take, if_pos hlt]
    simp
  have hm0 : up m x (some (.arr e size n el room)) = m := by
    funext q
    by_cases hq : q = x
    · subst hq; rw [up_same, hx]
    · rw [up_other _ _ hq]
  rw [hm0] at hmem
  unfold wpList
  rw [if_pos (by simp [Region.wanted, hg])]
  refine .inl ?_
  unfold Oper.wp
  rw [hrun]
  refine kk ρ _ _ ?_
  have := (hsat.move hmem (fun q hq => hq) fun _ _ => rfl).putT (d := o.dst) (fun q hq => by rw [hd] at hq; cases hq) (tv := .unk) (v := .tuple #[]) trivial
  rw [hd] at this ⊢
  exact this
def min3 (a b c : Int) : Int := if c < (if b < a then b else a) then c else if b < a then b else a
/-- The least of three numbers, under a guard. -/
theorem GO.min3G {ops : Array Oper} {rest : List Oper} {o : Oper} {at_ : Array TypeId} {j : Nat} {p q r : Operand} {want cb : Bool} {t0 : Nat → TV} {m : Mem} (a b c : Int) (hg : o.guard = some (j, want)) (hb : guardB ops t0 j want = some cb) (hop : o.op = .call { callee := .builtin .min, args := #[p, q, r], argTypes := at_ })
    (hob : AllP (stripObs t0 j want cb (slotsOf o.op.operands.toList))) (hp : evG t0 j want (slotsOf o.op.operands.toList) p = .v (.c (.k (.int .i64 a)))) (hq : evG t0 j want (slotsOf o.op.operands.toList) q = .v (.c (.k (.int .i64 b)))) (hr : evG t0 j want (slotsOf o.op.operands.toList) r = .v (.c (.k (.int .i64 c)))) (hd : dstOk E.N o.dst = true)
    (k : GO P E ops K rest ⟨Sx.putT t0 o.dst (.grd j want cb (.c (.k (.int .i64 (min3 a b c))))), m⟩) : GO P E ops K (o :: rest) ⟨t0, m⟩ := by
  refine GO.steps (tv := .grd j want cb (.c (.k (.int .i64 (min3 a b c))))) (ms := []) ?_ k
  intro st hle ρ ac w hs Kc Q hk
  have hs' := hs.weakT hle.t
  have hw := wanted_cond (ops := ops) hs' hg hb
  rw [hw]
  cases hcb : cb with
  | true =>
    subst hcb
    rw [if_pos rfl]
    have hev := fun y => evG_rep hs' hob rfl y
    have e1 : ac.eval p = .int .i64 a := by have := hev p; rw [hp] at this; exact this.2
    have e2 : ac.eval q = .int .i64 b := by have := hev q; rw [hq] at this; exact this.2
    have e3 : ac.eval r = .int .i64 c := by have := hev r; rw [hr] at this; exact this.2
    have hrun : (execOp ac.eval o).run P w = .ok (.value (.int .i64 (min3 a b c))) w := by
      simp only [execOp, hop, resolve, List.map_toArray, List.map_cons, List.map_nil, Sem.run_bind, Sem.run_pure, Result.andThen_ok, invoke, builtin, Builtin.min_, e1, e2, e3, List.foldlM_cons, List.foldlM_nil, Builtin.min2]
      rfl
    exact Snd.go hs (dstOk_lt hd) (tv := .grd j want true (.c (.k (.int .i64 (min3 a b c))))) (Snd.here hs.mem hrun ⟨fun _ => ⟨trivial, rfl⟩, fun hf => by cases hf⟩) fun ρ' a' w' hs'' => hk ρ' a' w' hs''
  | false =>
    subst hcb
    rw [if_neg (by simp)]
    exact hk ρ _ w (hs.putT (dstOk_lt hd) ⟨fun hf => (by cases hf), fun _ => rfl⟩)
/-- A function that answers with a row of its own making. -/
def endOwnN (T : Tab) (fn : Func) (ty : TypeId) (n sz : Nat) (el : Nat → List Value) : Exit → St → Prop := fun e st => (e = .ret ∨ e = .normal) ∧ ∃ r, fn.results.toList = [r] ∧ ∃ x c el2 room, resOne T st r = .v (.c (.slc x 0 sz n c)) ∧ n ≤ c ∧ st.m x = some (.arr ty sz n el2 room) ∧ ∀ i, i < n → el2 i = el i
theorem enterOwnNew (hT : Tab.fine P T) {f : FuncId} {fn : Func} {c : Code} {args : Array Value} {w : World} (ty : TypeId) (n sz : Nat) (el : Nat → List Value) (hf : P.funcs[f]? = some fn) (hb : fn.body = some c) (N : Nat) (hN : fn.ntmps = N) (avs : List AV) (l : List Inp)
    (hargs : args = (avs.map (AV.conc (inpsV l))).toArray) (hl : Nat.ble avs.length N = true) (hr : allRd w l) (ha : allInps l avs)
    (h : G P ⟨w, [], N⟩ (endOwnN T fn ty n sz el) c ⟨argsT avs, lkM (inpsM l)⟩) : Calls P f args w fun e w' => OwnNew w w' e ty n sz el ∧ Below w.heap.size w w' := by
  subst hN
  refine enter (E := ⟨w, [], fn.ntmps⟩) hf hb (inpsV l) (Sat.init hr ha hargs (Nat.le_of_ble_eq_true hl)) (h.mono fun e st hk => ⟨hk.1, fun ρ a w' hs => ?_⟩)
  obtain ⟨r, h1, x, cp, el2, room, h2, h3, h4, h5⟩ := hk.2
  obtain ⟨h6, h7⟩ := resOne_run hT hs h2
  obtain ⟨k1, k2, k3⟩ := hs.mem.ok x _ h4
  have k2 : w.heap.size ≤ (ρ x).1 := by
    rcases k2 with h | h
    · exact h
    · cases h
  obtain ⟨cs, q1, q2, q3⟩ := k3
  refine ⟨_, results_one h1 h6, ⟨(ρ x).1, cp, ?_, h3, k2, cs, q1, by omega, fun i hi => by rw [← h5 i hi]; exact q3 i hi⟩, hs.mem.fr.toBelow⟩
  simp [AV.conc, AC.conc, k1]
theorem endOwnN.ret {fn : Func} {ty n sz c x room : Nat} {el el2 : Nat → List Value} {st : St} {r : ResultVar} (h : fn.results.toList = [r]) (h1 : resOne T st r = .v (.c (.slc x 0 sz n c))) (h2 : n ≤ c) (h3 : st.m x = some (.arr ty sz n el2 room)) (h4 : ∀ i, i < n → el2 i = el i) : endOwnN T fn ty n sz el .ret st := ⟨.inl rfl, r, h, x, c, el2, room, h1, h2, h3, h4⟩
end
end Go.Sx
/- The symbolic executor, part AI: append onto an empty row, in regions that draw their order. Generic over P. -/
set_option linter.unusedVariables false
set_option linter.unusedSimpArgs false
namespace Go.Sx
open Go.RowKit
section
variable {P : Program} {E : Env} {K : Exit → St → Prop} {T : Tab}
theorem Steps.emptyOwn (hT : Tab.fine P T) {ops : Array Oper} {o : Oper} {t e d : Nat} {dd de : TyD} {C : St} (sz : Nat) (el : Nat → List Value) (hg : o.guard = none) (hop : o.op = .buildSlice t 0 #[]) (hd : o.dst = some d) (hdN : Nat.blt d E.N = true) (hdb : Nat.blt d 1000 = true) (ht : T t = some dd) (hk : dd.kind = .slice e) (he : T e = some de) (hx : C.m d = none) :
    Steps P E ops o C (.v (.c (.slc d 0 sz 0 0))) [(d, .arr e sz 0 el 0)] := by
  intro st hle ρ a w hs Kc Q hk2
  rw [if_pos (by simp [Region.wanted, hg])]
  have hkind := (hT.ok t dd ht).kind
  rw [hk] at hkind
  have hsz := (hT.ok e de he).size w
  have hrun : (execOp a.eval o).run P w = .ok (.value (.slice (some ⟨w.heap.size, 0, none⟩) 0 0)) (w.alloc (.cells #[] e)) := by
    simp [execOp, hop, Instr.buildSlice, hkind w, hsz, Instr.fill, newRow]
    rw [show (w.alloc (.cells #[] e)) = w.alloc (.cells (Array.map (fun _ => (default : Value)) (Array.range 0)) e) by rw [show (Array.map (fun _ => (default : Value)) (Array.range 0)) = #[] from by apply Array.toList_inj.1; simp]]
  have hx2 : st.m d = none := by
    rw [hle.n d (by simp [mget])]
    exact hx
  have hm := hs.mem.newArr (x := d) hx2 (by simpa [Nat.blt_eq] using hdb) e (sz := sz) (n := 0) (room := 0) (el := el) (a := #[]) (by simp) (fun i hi => absurd hi (Nat.not_lt_zero i))
  have hρ : ∀ y, (st.m y).isSome = true → up ρ d (w.heap.size, 0) y = ρ y := fun y hy => up_other _ _ (fun e => by subst e; simp [hx2] at hy)
  unfold Oper.wp
  rw [hrun]
  refine hk2 (up ρ d (w.heap.size, 0)) _ _ ?_
  rw [upm_one]
  refine (hs.move hm (fun y hy => isSome_up y hy) hρ).putT (fun q hq => by rw [hd] at hq; injection hq with hq; subst hq; simpa [Nat.blt_eq] using hdN) (tv := .v (.c (.slc d 0 sz 0 0))) ⟨?_, ?_⟩
  · show (up st.m d _ d).isSome = true
    rw [up_same]; rfl
  · simp [AV.conc, AC.conc, up_same]
theorem GD.emptyOwn (hT : Tab.fine P T) {l : List Oper} {cls : List Nat} {X : List (Nat × Nat)} {base : St} {recs : List DR} {rest : List Oper} {tt : Nat → TV} {m : Mem} {o : Oper} {t e d : Nat} {dd de : TyD} (sz : Nat) (el : Nat → List Value) (i : Nat) (hi : recs.length = i) (hg : o.guard = none) (hop : o.op = .buildSlice t 0 #[]) (hd : o.dst = some d) (hdN : Nat.blt d E.N = true) (hdb : Nat.blt d 1000 = true) (ht : T t = some dd) (hk : dd.kind = .slice e) (he : T e = some de) (hx : (canF l cls X base i recs).m d = none) (hw : Wok X i o [(d, .arr e sz 0 el 0)] = true)
    (k : GD P E K l cls X base (⟨o, .v (.c (.slc d 0 sz 0 0)), [(d, .arr e sz 0 el 0)]⟩ :: recs) rest (Sx.putT tt o.dst (.v (.c (.slc d 0 sz 0 0)))) (upm m [(d, .arr e sz 0 el 0)])) : GD P E K l cls X base recs (o :: rest) tt m := by
  rw [canF_eq hi] at hx
  exact GD.step (Steps.emptyOwn hT sz el hg hop hd hdN hdb ht hk he hx) (by rw [hi]; exact hw) k
theorem Steps.appendRowNew {ops : Array Oper} {o : Oper} {s y : Operand} {t e size bytes d x sz' q n c : Nat} {z : Value} {A : Option Addr} {C : St} (el : Nat → List Value) (hp : ApT P t e size bytes z) (hg : o.guard = none) (hop : o.op = .call { callee := .builtin .append, args := #[s, y], argTypes := #[t, t] }) (hd : o.dst = some d) (hdN : Nat.blt d E.N = true) (hdb : Nat.blt (d + 50) 1000 = true)
    (hx : C.m d = none) (hx2 : C.m (d + 50) = none) (hs : evT C.t s = .v (.c (.slc x 0 sz' 0 0))) (hy : evT C.t y = .v (.c (.inp q A n c))) (hq : C.m q = some (.ro size n el)) (hlen : ∀ k, k < n → (el k).length = size) (h1 : ∀ i, i < n → ∀ u ∈ el i, u.oneCell' = true) (b1 : n ≤ maxLen) (b2 : n * bytes ≤ 140737488355328) :
    Steps P E ops o C (.v (.c (.row d n E.w0.heap.size))) (msL [.r n size el] [d]) := by
  intro st hle ρ a w hsat Kc Q hk
  have hs' := hsat.weakT hle.t
  rw [if_pos (by simp [Region.wanted, hg])]
  have n1 : st.m d = none := by rw [hle.n d (by simp only [msL, mget, List.nil_append]; cases Nat.beq d (d + 50) <;> simp)]; exact hx
  have n2 : st.m (d + 50) = none := by rw [hle.n (d + 50) (by simp [msL, mget])]; exact hx2
  have hq2 : st.m q = some (.ro size n el) := by
    rcases hle.m q with h | h
    · rw [hq] at h; cases h
    · exact h.trans hq
  have hs2 := hs'.eval s
  rw [show (St.mk C.t st.m).ev s = _ from hs] at hs2
  obtain ⟨AA, hAA⟩ : ∃ AA : Addr, AA = ⟨(ρ x).1, (ρ x).2 + 0 * sz', none⟩ := ⟨_, rfl⟩
  have es : a.eval s = .slice (some AA) 0 0 := by rw [hAA]; exact hs2.2
  have hy2 := hs'.eval y
  rw [show (St.mk C.t st.m).ev y = _ from hy] at hy2
  have ey : a.eval y = .slice A n c := hy2.2
  have hr : RdRow w A n size el := hsat.mem.rd (cap := c) hq2 hy2.1 (Nat.le_refl _)
  have key : ∀ (B : Option Addr) (cp : Nat) (w' : World), Below w.heap.size w w' → (execOp a.eval o).run P w = .ok (.value (.slice B n cp)) w' → (0 < n → ∃ b o, B = some ⟨b, o, none⟩ ∧ w.heap.size ≤ b ∧ b < w'.heap.size ∧ ∀ i, i < n → (el i).length = size ∧ ∀ j, j < size → w'.cell? ⟨b, o + (i * size + j), none⟩ = (el i)[j]?) → (∀ a, B = some a → a.spot = none) → n ≤ cp → o.wp P a w Kc Q := by
    intro B cp w' hb hrun h3 h4 h5
    obtain ⟨ρ', k1, k2, k3, k4, _⟩ := (hsat.mem.below hb).addRow (fun y b hy ho => hsat.mem.lt hy ho) n1 n2 hdb h3 h4 h5
    unfold Oper.wp
    rw [hrun]
    refine hk ρ' _ w' ?_
    rw [upm_msL]
    refine (hsat.move k2 (fun y hy => isSome_rowM y hy) k1).putT (fun q hq => by rw [hd] at hq; injection hq with hq; subst hq; simpa [Nat.blt_eq] using hdN) (tv := .v (.c (.row d n E.w0.heap.size))) ⟨?_, ?_⟩
    · obtain ⟨r1, r2, r3, r4⟩ := k3
      exact ⟨r1, r2, fun h0 => ⟨(r3 h0).1, Nat.le_trans hsat.mem.fr.size (r3 h0).2⟩, r4⟩
    · exact k4.symm
  rcases append_new (ty := o.type) hp (A := some AA) (c := c) hr h1 b1 b2 with ⟨h0, hrun⟩ | ⟨h0, v', w', hrun, r1, r2⟩
  · refine key (some AA) 0 w (Below.refl _ _) ?_ (fun h => by omega) (fun a ha => by injection ha with ha; subst ha; rw [hAA]) (by omega)
    rw [h0] at ey ⊢
    rw [h0] at hrun
    simp [execOp, hop, resolve, invoke, builtin, es, ey, hrun, Result.andThen]
  · have hb : Below w.heap.size w w' := ⟨r2.os, r2.tape, r2.output, r2.size, fun k hk => r2.block k hk (by simp)⟩
    rcases r1.2 with ⟨_, hz⟩ | ⟨g, cp, cur, rfl, hbg, hgg, hnc, hcm, hcs, htake⟩
    · omega
    refine key (some ⟨g, 0, none⟩) cp w' hb ?_ (fun _ => ⟨g, 0, rfl, hbg, lt_of_heap hgg, fun i hi => ⟨hlen i hi, fun j hj => ?_⟩⟩) (fun a ha => by injection ha with ha; subst ha; rfl) hnc
    · simp [execOp, hop, resolve, invoke, builtin, es, ey, hrun, Result.andThen]
    · rw [Nat.zero_add, cell_of_heap hgg, ← flatE_at hlen hi hj, ← htake, List.getElem?_take, if_pos (by
        have := Nat.mul_le_mul_right size (show i + 1 ≤ n from hi)
        rw [Nat.add_mul] at this
        omega)]
      simp
theorem GD.appendRowNew {l : List Oper} {cls : List Nat} {X : List (Nat × Nat)} {base : St} {recs : List DR} {rest : List Oper} {tt : Nat → TV} {m : Mem} {o : Oper} {s y : Operand} {t e size bytes d x sz' q n c : Nat} {z : Value} {A : Option Addr} (el : Nat → List Value) (i : Nat) (hi : recs.length = i) (hp : ApT P t e size bytes z) (hg : o.guard = none) (hop : o.op = .call { callee := .builtin .append, args := #[s, y], argTypes := #[t, t] }) (hd : o.dst = some d) (hdN : Nat.blt d E.N = true) (hdb : Nat.blt (d + 50) 1000 = true)
    (hx : (canF l cls X base i recs).m d = none) (hx2 : (canF l cls X base i recs).m (d + 50) = none) (hs : evT (canF l cls X base i recs).t s = .v (.c (.slc x 0 sz' 0 0))) (hy : evT (canF l cls X base i recs).t y = .v (.c (.inp q A n c))) (hq : (canF l cls X base i recs).m q = some (.ro size n el)) (hw : Wok X i o (msL [.r n size el] [d]) = true) (hlen : ∀ k, k < n → (el k).length = size) (h1 : ∀ i, i < n → ∀ u ∈ el i, u.oneCell' = true) (b1 : n ≤ maxLen) (b2 : n * bytes ≤ 140737488355328)
    (k : GD P E K l cls X base (⟨o, .v (.c (.row d n E.w0.heap.size)), msL [.r n size el] [d]⟩ :: recs) rest (Sx.putT tt o.dst (.v (.c (.row d n E.w0.heap.size)))) (upm m (msL [.r n size el] [d]))) : GD P E K l cls X base recs (o :: rest) tt m := by
  rw [canF_eq hi] at hx hx2 hs hy hq
  exact GD.step (Steps.appendRowNew el hp hg hop hd hdN hdb hx hx2 hs hy hq hlen h1 b1 b2) (by rw [hi]; exact hw) k
end
end Go.Sx
/- The symbolic executor, part AJ: structs of structs, compared. Generic over P. -/
set_option linter.unusedVariables false
set_option linter.unusedSimpArgs false
namespace Go.Sx
open Go.RowKit
theorem part_struct {P : Program} {t : TypeId} {gs : Array Field} {k : Nat} (hu : P.underlying t = some (.struct gs)) (hi : (P.info? t).map (·.size) = some k) (xs : Array Value) (off : Nat) (w : World) : (part t xs off).run P w = .ok (.agg (xs.extract off (off + k))) w := by
  cases hx : P.info? t with
  | none => rw [hx] at hi; cases hi
  | some i =>
    rw [hx] at hi
    have hi : i.size = k := by simpa using hi
    subst hi
    simp [part, isAgg, run_underlying hu, sizeOf, typeInfo, hx, Result.andThen]
def nestOK (P : Program) : Nat → List Field → List (List Value) → List (List Value) → Prop
  | _, [], [], [] => True
  | i, f :: fs, X :: XS, Y :: YS => f.name ≠ "_" ∧ f.offset = i ∧ X.length = Y.length ∧ (∃ gs, P.underlying f.type = some (.struct gs) ∧ P.stoodInHeld f.type = false ∧ flatF P 0 gs.toList = true ∧ fitL P gs.toList X Y = true) ∧ (P.info? f.type).map (·.size) = some X.length ∧ nestOK P (i + X.length) fs XS YS
  | _, _, _, _ => False
def nestB (P : Program) : Nat → List Field → List (List Value) → List (List Value) → Bool
  | _, [], [], [] => true
  | i, f :: fs, X :: XS, Y :: YS => (f.name != "_") && (Nat.beq f.offset i && (Nat.beq X.length Y.length && ((match P.underlying f.type with | some (.struct gs) => !(P.stoodInHeld f.type) && (flatF P 0 gs.toList && fitL P gs.toList X Y) | _ => false) && ((match P.info? f.type with | some q => Nat.beq q.size X.length | none => false) && nestB P (i + X.length) fs XS YS))))
  | _, _, _, _ => false
theorem nestB_ok {P : Program} : ∀ (i : Nat) (fs : List Field) (XS YS : List (List Value)), nestB P i fs XS YS = true → nestOK P i fs XS YS
  | _, [], [], [], _ => trivial
  | i, f :: fs, X :: XS, Y :: YS, h => by
    simp only [nestB, Bool.and_eq_true] at h
    obtain ⟨h1, h2, h3, h4, h5, h6⟩ := h
    refine ⟨by simpa using h1, Nat.eq_of_beq_eq_true h2, Nat.eq_of_beq_eq_true h3, ?_, ?_, nestB_ok _ _ _ _ h6⟩
    · split at h4
      · rename_i gs hu
        simp only [Bool.and_eq_true, Bool.not_eq_true'] at h4
        exact ⟨gs, hu, h4.1, h4.2.1, h4.2.2⟩
      · cases h4
    · split at h5
      · rename_i q hq
        rw [hq]
        simpa using Nat.eq_of_beq_eq_true h5
      · cases h5
  | _, [], [], _ :: _, h => by cases h
  | _, [], _ :: _, _, h => by cases h
  | _, _ :: _, [], _, h => by cases h
  | _, _ :: _, _ :: _, [], h => by cases h
def eqLL : List (List Value) → List (List Value) → Bool
  | X :: XS, Y :: YS => eqL X Y && eqLL XS YS
  | _, _ => true
theorem cut_mid {pre X rest : List Value} {i : Nat} (h : pre.length = i) : (pre ++ (X ++ rest)).toArray.extract i (i + X.length) = X.toArray := by
  subst h
  simp
theorem run_eqFieldsN {P : Program} (d : Nat) : ∀ (fs : List Field) (i : Nat) (pre pre' : List Value) (XS YS : List (List Value)), pre.length = i → pre'.length = i → nestOK P i fs XS YS → ∀ w : World, (Op.eqFields (d + 2) (pre ++ XS.flatten).toArray (pre' ++ YS.flatten).toArray fs).run P w = .ok (eqLL XS YS) w
  | [], i, pre, pre', [], [], _, _, _, w => by simp [Op.eqFields, eqLL]
  | [], i, pre, pre', _ :: _, _, _, _, h, w => h.elim
  | [], i, pre, pre', [], _ :: _, _, _, h, w => h.elim
  | _ :: _, i, pre, pre', [], _, _, _, h, w => h.elim
  | _ :: _, i, pre, pre', _ :: _, [], _, _, h, w => h.elim
  | f :: fs, i, pre, pre', X :: XS, Y :: YS, hp, hp', h, w => by
    obtain ⟨hn, ho, hl, ⟨gs, hu, hs, hf, hx⟩, hi, hr⟩ := h
    have ih := run_eqFieldsN d fs (i + X.length) (pre ++ X) (pre' ++ Y) XS YS (by simp [hp]) (by simp [hp', hl]) hr w
    rw [List.append_assoc, List.append_assoc] at ih
    have hS : P.fieldsOf f.type = gs := by rw [Program.fieldsOf, hu]
    have e : (Op.equalIn (d + 1 + 1) f.type (.agg X.toArray) (.agg Y.toArray)).run P w = .ok (eqL X Y) w := by
      rw [run_equalIn_agg w (d + 1) f.type _ _ (by rw [hS]; exact hu) hs, hS]
      exact run_eqFields d gs.toList 0 [] [] X Y rfl rfl hf hx w
    simp only [List.flatten_cons]
    simp only [Op.eqFields, if_pos hn, Sem.run_bind, part_struct hu hi, ho, cut_mid hp, Result.andThen_ok]
    rw [hl, cut_mid hp', e]
    simp only [Result.andThen_ok]
    rw [eqLL]
    cases eqL X Y with
    | false => simp
    | true => simpa using ih
structure CmpV (P : Program) (t : TypeId) (X Y : List Value) (r : Bool) : Prop where
  guard : P.eqGuardType P.depth t = false
  run : ∀ w : World, (Op.equalIn 10000 t (.agg X.toArray) (.agg Y.toArray)).run P w = .ok r w
theorem cmpV_nest {P : Program} {t : TypeId} {fs : Array Field} {X Y : List Value} {r : Bool} (XS YS : List (List Value)) (hu : P.underlying t = some (.struct fs)) (hs : P.stoodInHeld t = false) (hg : P.eqGuardType P.depth t = false) (hX : X = XS.flatten) (hY : Y = YS.flatten) (h : nestOK P 0 fs.toList XS YS) (hr : eqLL XS YS = r) : CmpV P t X Y r := by
  refine ⟨hg, fun w => ?_⟩
  have hS : P.fieldsOf t = fs := by rw [Program.fieldsOf, hu]
  subst hX hY hr
  rw [show (10000 : Nat) = 9999 + 1 from rfl, run_equalIn_agg w 9999 t _ _ (by rw [hS]; exact hu) hs, hS]
  exact run_eqFieldsN 9997 fs.toList 0 [] [] XS YS rfl rfl h w
section
variable {P : Program} {E : Env} {K : Exit → St → Prop} {T : Tab}
def negR (neg r : Bool) : Bool := match neg with
  | false => r
  | true => !r
theorem exec_structEqV {t t' : TypeId} {y z : Operand} {o : Oper} {X Y : List Value} {r : Bool} (neg : Bool) (hop : o.op = .binOp (eqOp neg) t y z t') (hc : CmpV P t X Y r) {η : Operand → Value} (hy : η y = .agg X.toArray) (hz : η z = .agg Y.toArray) (w : World) :
    (execOp η o).run P w = .ok (.value (.bool (negR neg r))) w := by
  cases neg
  · simp only [execOp, hop, eqOp, negR, hy, hz, Sem.run_bind, run_eqGuard_agg w .eql t y z _ _ hc.guard, Result.andThen_ok, run_eql_struct, hc.run w, Sem.run_pure]
  · simp only [execOp, hop, eqOp, negR, hy, hz, Sem.run_bind, run_eqGuard_agg w .neq t y z _ _ hc.guard, Result.andThen_ok, run_neq_struct, hc.run w, Sem.run_pure]
theorem Steps.structEqV {ops : Array Oper} {o : Oper} {t t' : TypeId} {y z : Operand} {C : St} (neg : Bool) (X Y : List Value) {r : Bool} (hg : o.guard = none) (hop : o.op = .binOp (eqOp neg) t y z t') (hy : evT C.t y = .v (.agg (X.map .k))) (hz : evT C.t z = .v (.agg (Y.map .k))) (hd : dstOk E.N o.dst = true)
    (hc : CmpV P t X Y r) : Steps P E ops o C (.v (.c (.k (.bool (negR neg r))))) [] := by
  intro st hle ρ a w hs Kc Q hk
  have hs' := hs.weakT hle.t
  rw [if_pos (by simp [Region.wanted, hg])]
  have e1 : a.eval y = .agg X.toArray := by have := hs'.eval y; rw [show (St.mk C.t st.m).ev y = .v (.agg (X.map .k)) from hy] at this; rw [← map_k_conc ρ]; exact this.2
  have e2 : a.eval z = .agg Y.toArray := by have := hs'.eval z; rw [show (St.mk C.t st.m).ev z = .v (.agg (Y.map .k)) from hz] at this; rw [← map_k_conc ρ]; exact this.2
  exact Snd.go hs (dstOk_lt hd) (tv := .v (.c (.k (.bool (negR neg r))))) (Snd.here hs.mem (v := .bool (negR neg r)) (exec_structEqV neg hop hc e1 e2 w) ⟨trivial, rfl⟩) fun ρ' a' w' hs'' => hk ρ' a' w' hs''
theorem Steps.structEqGV {ops : Array Oper} {o : Oper} {t t' : TypeId} {y z : Operand} {C : St} {j : Nat} {want cb : Bool} (neg : Bool) (X Y : List Value) {r : Bool} (hg : o.guard = some (j, want)) (hb : guardB ops C.t j want = some cb) (hop : o.op = .binOp (eqOp neg) t y z t')
    (hob : AllP (stripObs C.t j want cb (slotsOf o.op.operands.toList)))
    (hy : evG C.t j want (slotsOf o.op.operands.toList) y = .v (.agg (X.map .k))) (hz : evG C.t j want (slotsOf o.op.operands.toList) z = .v (.agg (Y.map .k))) (hd : dstOk E.N o.dst = true)
    (hc : CmpV P t X Y r) : Steps P E ops o C (.grd j want cb (.c (.k (.bool (negR neg r))))) [] := by
  intro st hle ρ a w hs Kc Q hk
  have hs' := hs.weakT hle.t
  have hw := wanted_cond (ops := ops) hs' hg hb
  rw [hw]
  cases hcb : cb with
  | true =>
    subst hcb
    rw [if_pos rfl]
    have hev := fun y => evG_rep hs' hob rfl y
    have e1 : a.eval y = .agg X.toArray := by have := hev y; rw [hy] at this; rw [← map_k_conc ρ]; exact this.2
    have e2 : a.eval z = .agg Y.toArray := by have := hev z; rw [hz] at this; rw [← map_k_conc ρ]; exact this.2
    exact Snd.go hs (dstOk_lt hd) (tv := .grd j want true (.c (.k (.bool (negR neg r))))) (Snd.here hs.mem (v := .bool (negR neg r)) (exec_structEqV neg hop hc e1 e2 w) ⟨fun _ => ⟨trivial, rfl⟩, fun hf => by cases hf⟩) fun ρ' a' w' hs'' => hk ρ' a' w' hs''
  | false =>
    subst hcb
    rw [if_neg (by simp)]
    exact hk ρ _ w (hs.putT (dstOk_lt hd) ⟨fun hf => (by cases hf), fun _ => rfl⟩)
theorem GO.structEqV {ops : Array Oper} {rest : List Oper} {o : Oper} {t t' : TypeId} {y z : Operand} {tt : Nat → TV} {m : Mem} (neg : Bool) (X Y : List Value) (r : Bool) (hc : CmpV P t X Y r) (hg : o.guard = none) (hop : o.op = .binOp (eqOp neg) t y z t') (hy : evT tt y = .v (.agg (X.map .k))) (hz : evT tt z = .v (.agg (Y.map .k))) (hd : dstOk E.N o.dst = true)
    (k : GO P E ops K rest ⟨Sx.putT tt o.dst (.v (.c (.k (.bool (negR neg r))))), m⟩) : GO P E ops K (o :: rest) ⟨tt, m⟩ :=
  GO.steps (Steps.structEqV (C := ⟨tt, m⟩) neg X Y hg hop hy hz hd hc) k
theorem GD.structEqGV {l : List Oper} {cls : List Nat} {X0 : List (Nat × Nat)} {base : St} {recs : List DR} {o : Oper} {rest : List Oper} {tt : Nat → TV} {m : Mem} {t t' : TypeId} {y z : Operand} {j : Nat} {want cb : Bool} (neg : Bool) (X Y : List Value) (r : Bool) (hc : CmpV P t X Y r) (i : Nat) (hi : recs.length = i) (hg : o.guard = some (j, want)) (hb : guardB l.toArray (canF l cls X0 base i recs).t j want = some cb) (hop : o.op = .binOp (eqOp neg) t y z t')
    (hob : AllP (stripObs (canF l cls X0 base i recs).t j want cb (slotsOf o.op.operands.toList)))
    (hy : evG (canF l cls X0 base i recs).t j want (slotsOf o.op.operands.toList) y = .v (.agg (X.map .k))) (hz : evG (canF l cls X0 base i recs).t j want (slotsOf o.op.operands.toList) z = .v (.agg (Y.map .k))) (hd : dstOk E.N o.dst = true)
    (k : GD P E K l cls X0 base (⟨o, .grd j want cb (.c (.k (.bool (negR neg r)))), []⟩ :: recs) rest (Sx.putT tt o.dst (.grd j want cb (.c (.k (.bool (negR neg r)))))) m) : GD P E K l cls X0 base recs (o :: rest) tt m := by
  rw [canF_eq hi] at hb hob hy hz
  exact GD.step (Steps.structEqGV neg X Y hg hb hop hob hy hz hd hc) rfl k
end
end Go.Sx
/- The symbolic executor, part AK: structs that hold a row of their own. Generic over P. -/
set_option linter.unusedVariables false
set_option linter.unusedSimpArgs false
namespace Go.Sx
open Go.RowKit
/-- A call answers with a struct of a row of its own and a value. -/
def OwnPair (w w' : World) (e : Ending) (ty : TypeId) (n sz : Nat) (el : Nat → List Value) (v : Value) : Prop := ∃ b c, e = .returned (.agg #[.slice (some ⟨b, 0, none⟩) n c, v]) ∧ n ≤ c ∧ w.heap.size ≤ b ∧ OwnAt w' b ty n sz el 0
section
variable {P : Program} {E : Env} {K : Exit → St → Prop} {T : Tab}
theorem Steps.callOwnPair {ops : Array Oper} {o : Oper} {c : Call} {f : FuncId} {avs : List AV} {caps : List Cap} {C : St} (x : Nat) (ty : TypeId) (n sz : Nat) (el : Nat → List Value) (v : Value) (hg : o.guard = none) (hop : o.op = .call c) (he : callE C.t c = .mk f avs caps) (hd : dstOk E.N o.dst = true) (hx : C.m x = none) (hx2 : C.m (x + 50) = none) (hxb : Nat.blt (x + 50) 1000 = true)
    (hcf : ∀ (args : Array Value) (w : World), (callFunc f args).run P w = .ok (.enter f args) w)
    (hc : ∀ m, LeM C.m m → ∀ ρ w, SatM E ρ m w → (∀ v ∈ avs, v.ok ρ m) → Calls P f (avs.map (AV.conc ρ) ++ caps.map (Cap.conc ρ)).toArray w fun e w' => OwnPair w w' e ty n sz el v ∧ Below w.heap.size w w') :
    Steps P E ops o C (.v (.agg [.row x n E.w0.heap.size, .k v])) (msO x ty n sz el) := by
  intro st hle ρ a w hs Kc Q hk
  have hs' := hs.weakT hle.t
  obtain ⟨hr, hok, hok2⟩ := call_run hs' hop he hcf
  rw [if_pos (by simp [Region.wanted, hg])]
  unfold Oper.wp
  rw [hr]
  refine (hc st.m hle.m ρ w hs.mem hok).mono ?_
  rintro e w' ⟨⟨b, cp, rfl, h1, h2, h3⟩, hb⟩
  have n1 : st.m x = none := by
    rw [hle.n x (by simp only [msO, mget]; cases Nat.beq x (x + 50) <;> simp)]
    exact hx
  have n2 : st.m (x + 50) = none := by
    rw [hle.n (x + 50) (by simp [msO, mget])]
    exact hx2
  obtain ⟨ρ', k1, k2, k3, k4⟩ := hs.mem.addOwnRow hb n1 n2 hxb h2 h3 h1
  refine hk ρ' _ w' ?_
  rw [upm_msO]
  refine (hs.move k2 (fun y hy => isSome_up y (isSome_up y hy)) k1).putT (dstOk_lt hd) (tv := .v (.agg [.row x n E.w0.heap.size, .k v])) ⟨fun q hq => ?_, ?_⟩
  · simp only [List.mem_cons, List.not_mem_nil, or_false] at hq
    rcases hq with rfl | rfl
    · exact k3
    · trivial
  · simp only [AV.conc, List.map_cons, List.map_nil, k4]
    rfl
theorem GO.callOwnPair {ops : Array Oper} {rest : List Oper} {o : Oper} {c : Call} {f : FuncId} {avs : List AV} {caps : List Cap} {t : Nat → TV} {m : Mem} (x : Nat) (ty : TypeId) (n sz : Nat) (el : Nat → List Value) (v : Value) (hg : o.guard = none) (hop : o.op = .call c) (he : callE t c = .mk f avs caps) (hd : dstOk E.N o.dst = true) (hx : m x = none) (hx2 : m (x + 50) = none) (hxb : Nat.blt (x + 50) 1000 = true)
    (hcf : ∀ (args : Array Value) (w : World), (callFunc f args).run P w = .ok (.enter f args) w)
    (hc : ∀ m', LeM m m' → ∀ ρ w, SatM E ρ m' w → (∀ v ∈ avs, v.ok ρ m') → Calls P f (avs.map (AV.conc ρ) ++ caps.map (Cap.conc ρ)).toArray w fun e w' => OwnPair w w' e ty n sz el v ∧ Below w.heap.size w w')
    (k : GO P E ops K rest ⟨Sx.putT t o.dst (.v (.agg [.row x n E.w0.heap.size, .k v])), rowMo m x ty n sz el⟩) : GO P E ops K (o :: rest) ⟨t, m⟩ :=
  GO.steps (Steps.callOwnPair (C := ⟨t, m⟩) x ty n sz el v hg hop he hd hx hx2 hxb hcf hc) (by rw [upm_msO]; exact k)
theorem GO.callTurnR {ops : Array Oper} {rest : List Oper} {o : Oper} {c : Call} {f : FuncId} {avs : List AV} {caps : List Cap} {t : Nat → TV} {m : Mem} (x : Nat) (ty : TypeId) (n n' sz g : Nat) (el el' : Nat → List Value) (hg : o.guard = none) (hop : o.op = .call c) (he : callE t c = .mk f avs caps) (hd : dstOk E.N o.dst = true) (hx : m x = some (.arr ty sz n el 0)) (hin : .c (.row x n g) ∈ avs) (hn : n' ≤ n)
    (hcf : ∀ (args : Array Value) (w : World), (callFunc f args).run P w = .ok (.enter f args) w)
    (hc : ∀ m', LeM m m' → ∀ ρ w, SatM E ρ m' w → (∀ v ∈ avs, v.ok ρ m') → Calls P f (avs.map (AV.conc ρ) ++ caps.map (Cap.conc ρ)).toArray w fun e w' => e = .returned (AC.conc ρ (.row x n' g)) ∧ Fr w [(ρ x).1] w' ∧ OwnAt w' (ρ x).1 ty n' sz el' 0)
    (k : GO P E ops K rest ⟨Sx.putT t o.dst (.v (.c (.row x n' g))), up m x (some (.arr ty sz n' el' 0))⟩) : GO P E ops K (o :: rest) ⟨t, m⟩ :=
  GO.steps (Steps.callTurnR (C := ⟨t, m⟩) x ty n n' sz g el el' hg hop he hd hx hin hn hcf hc) (by rw [upm_one]; exact k)
theorem Steps.appendOwnNew {ops : Array Oper} {o : Oper} {s y : Operand} {t e size bytes d x sz' q n c : Nat} {z : Value} {A : Option Addr} {C : St} (el : Nat → List Value) (hp : ApT P t e size bytes z) (hg : o.guard = none) (hop : o.op = .call { callee := .builtin .append, args := #[s, y], argTypes := #[t, t] }) (hd : o.dst = some d) (hdN : Nat.blt d E.N = true) (hdb : Nat.blt (d + 50) 1000 = true)
    (hx : C.m d = none) (hx2 : C.m (d + 50) = none) (hs : evT C.t s = .v (.c (.slc x 0 sz' 0 0))) (hy : evT C.t y = .v (.c (.inp q A n c))) (hq : C.m q = some (.ro size n el)) (h0 : 0 < n) (hlen : ∀ k, k < n → (el k).length = size) (h1 : ∀ i, i < n → ∀ u ∈ el i, u.oneCell' = true) (b1 : n ≤ maxLen) (b2 : n * bytes ≤ 140737488355328) :
    Steps P E ops o C (.v (.c (.row d n E.w0.heap.size))) (msO d e n size el) := by
  intro st hle ρ a w hsat Kc Q hk
  have hs' := hsat.weakT hle.t
  rw [if_pos (by simp [Region.wanted, hg])]
  have n1 : st.m d = none := by rw [hle.n d (by simp only [msO, mget]; cases Nat.beq d (d + 50) <;> simp)]; exact hx
  have n2 : st.m (d + 50) = none := by rw [hle.n (d + 50) (by simp [msO, mget])]; exact hx2
  have hq2 : st.m q = some (.ro size n el) := by
    rcases hle.m q with h | h
    · rw [hq] at h; cases h
    · exact h.trans hq
  have hs2 := hs'.eval s
  rw [show (St.mk C.t st.m).ev s = _ from hs] at hs2
  obtain ⟨AA, hAA⟩ : ∃ AA : Addr, AA = ⟨(ρ x).1, (ρ x).2 + 0 * sz', none⟩ := ⟨_, rfl⟩
  have es : a.eval s = .slice (some AA) 0 0 := by rw [hAA]; exact hs2.2
  have hy2 := hs'.eval y
  rw [show (St.mk C.t st.m).ev y = _ from hy] at hy2
  have ey : a.eval y = .slice A n c := hy2.2
  have hr : RdRow w A n size el := hsat.mem.rd (cap := c) hq2 hy2.1 (Nat.le_refl _)
  rcases append_new (ty := o.type) hp (A := some AA) (c := c) hr h1 b1 b2 with ⟨hz, _⟩ | ⟨_, v', w', hrun, r1, r2⟩
  · omega
  · have hb : Below w.heap.size w w' := ⟨r2.os, r2.tape, r2.output, r2.size, fun k hk => r2.block k hk (by simp)⟩
    rcases r1.2 with ⟨_, hz⟩ | ⟨g, cp, cur, rfl, hbg, hgg, hnc, hcm, hcs, htake⟩
    · omega
    have hex : (execOp a.eval o).run P w = .ok (.value (.slice (some ⟨g, 0, none⟩) n cp)) w' := by
      simp [execOp, hop, resolve, invoke, builtin, es, ey, hrun, Result.andThen]
    have hown : OwnAt w' g e n size el 0 := ⟨cur, hgg, by rw [hcs]; have := Nat.mul_le_mul_right size hnc; omega, fun i hi => ⟨hlen i hi, fun j hj => by
      rw [← flatE_at hlen hi hj, ← htake, List.getElem?_take, if_pos (by
        have := Nat.mul_le_mul_right size (show i + 1 ≤ n from hi)
        rw [Nat.add_mul] at this
        omega)]
      simp⟩⟩
    obtain ⟨ρ', k1, k2, k3, k4⟩ := hsat.mem.addOwnRow hb n1 n2 hdb hbg hown hnc
    unfold Oper.wp
    rw [hex]
    refine hk ρ' _ w' ?_
    rw [upm_msO]
    exact (hsat.move k2 (fun y hy => isSome_up y (isSome_up y hy)) k1).putT (fun q hq => by rw [hd] at hq; injection hq with hq; subst hq; simpa [Nat.blt_eq] using hdN) (tv := .v (.c (.row d n E.w0.heap.size))) ⟨k3, k4.symm⟩
theorem GD.appendOwnNew {l : List Oper} {cls : List Nat} {X : List (Nat × Nat)} {base : St} {recs : List DR} {rest : List Oper} {tt : Nat → TV} {m : Mem} {o : Oper} {s y : Operand} {t e size bytes d x sz' q n c : Nat} {z : Value} {A : Option Addr} (el : Nat → List Value) (i : Nat) (hi : recs.length = i) (hp : ApT P t e size bytes z) (hg : o.guard = none) (hop : o.op = .call { callee := .builtin .append, args := #[s, y], argTypes := #[t, t] }) (hd : o.dst = some d) (hdN : Nat.blt d E.N = true) (hdb : Nat.blt (d + 50) 1000 = true)
    (hx : (canF l cls X base i recs).m d = none) (hx2 : (canF l cls X base i recs).m (d + 50) = none) (hs : evT (canF l cls X base i recs).t s = .v (.c (.slc x 0 sz' 0 0))) (hy : evT (canF l cls X base i recs).t y = .v (.c (.inp q A n c))) (hq : (canF l cls X base i recs).m q = some (.ro size n el)) (hw : Wok X i o (msO d e n size el) = true) (h0 : 0 < n) (hlen : ∀ k, k < n → (el k).length = size) (h1 : ∀ i, i < n → ∀ u ∈ el i, u.oneCell' = true) (b1 : n ≤ maxLen) (b2 : n * bytes ≤ 140737488355328)
    (k : GD P E K l cls X base (⟨o, .v (.c (.row d n E.w0.heap.size)), msO d e n size el⟩ :: recs) rest (Sx.putT tt o.dst (.v (.c (.row d n E.w0.heap.size)))) (upm m (msO d e n size el))) : GD P E K l cls X base recs (o :: rest) tt m := by
  rw [canF_eq hi] at hx hx2 hs hy hq
  exact GD.step (Steps.appendOwnNew el hp hg hop hd hdN hdb hx hx2 hs hy hq h0 hlen h1 b1 b2) (by rw [hi]; exact hw) k
def endOwnP (T : Tab) (fn : Func) (ty : TypeId) (n sz : Nat) (el : Nat → List Value) (v : Value) : Exit → St → Prop := fun e st => (e = .ret ∨ e = .normal) ∧ ∃ r, fn.results.toList = [r] ∧ ∃ x g el2 room, resOne T st r = .v (.agg [.row x n g, .k v]) ∧ st.m x = some (.arr ty sz n el2 room) ∧ ∀ i, i < n → el2 i = el i
theorem enterOwnP (hT : Tab.fine P T) {f : FuncId} {fn : Func} {c : Code} {args : Array Value} {w : World} (ty : TypeId) (n sz : Nat) (el : Nat → List Value) (v : Value) (h0 : 0 < n) (hf : P.funcs[f]? = some fn) (hb : fn.body = some c) (N : Nat) (hN : fn.ntmps = N) (avs : List AV) (l : List Inp)
    (hargs : args = (avs.map (AV.conc (inpsV l))).toArray) (hl : Nat.ble avs.length N = true) (hr : allRd w l) (ha : allInps l avs)
    (h : G P ⟨w, [], N⟩ (endOwnP T fn ty n sz el v) c ⟨argsT avs, lkM (inpsM l)⟩) : Calls P f args w fun e w' => OwnPair w w' e ty n sz el v ∧ Below w.heap.size w w' := by
  subst hN
  refine enter (E := ⟨w, [], fn.ntmps⟩) hf hb (inpsV l) (Sat.init hr ha hargs (Nat.le_of_ble_eq_true hl)) (h.mono fun e st hk => ⟨hk.1, fun ρ a w' hs => ?_⟩)
  obtain ⟨r, h1, x, g, el2, room, h2, h4, h5⟩ := hk.2
  obtain ⟨h6, h7⟩ := resOne_run hT hs h2
  obtain ⟨k1, k2, k3⟩ := hs.mem.ok x _ h4
  have k2 : w.heap.size ≤ (ρ x).1 := by
    rcases k2 with h | h
    · exact h
    · cases h
  obtain ⟨cs, q1, q2, q3⟩ := k3
  have hrow : AC.ok ρ st.m (.row x n g) := h7 _ List.mem_cons_self
  have had := hs.mem.rowAd h4 hrow h0
  refine ⟨_, results_one h1 h6, ⟨(ρ x).1, (ρ (x + 50)).1, ?_, hrow.2.2.2, k2, cs, q1, by omega, fun i hi => by rw [← h5 i hi]; exact q3 i hi⟩, hs.mem.fr.toBelow⟩
  simp [AV.conc, AC.conc, had]
theorem endOwnP.ret {fn : Func} {ty n sz x g room : Nat} {el el2 : Nat → List Value} {v : Value} {st : St} {r : ResultVar} (h : fn.results.toList = [r]) (h1 : resOne T st r = .v (.agg [.row x n g, .k v])) (h3 : st.m x = some (.arr ty sz n el2 room)) (h4 : ∀ i, i < n → el2 i = el i) : endOwnP T fn ty n sz el v .ret st := ⟨.inl rfl, r, h, x, g, el2, room, h1, h3, h4⟩
end
end Go.Sx
/- The symbolic executor, part AL: great arrays of one-cell elements, read and written whole. Generic over P. -/
set_option linter.unusedVariables false
set_option linter.unusedSimpArgs false
namespace Go.Sx
open Go.RowKit
def bigL (N : Nat) (f : Nat → Value) : List Value := (List.range N).map f
def bigA (N : Nat) (f : Nat → Value) : Value := .agg (bigL N f).toArray
theorem bigL_len (N : Nat) (f : Nat → Value) : (bigL N f).length = N := by simp [bigL]
theorem bigL_get (N : Nat) (f : Nat → Value) {i : Nat} (h : i < N) : (bigL N f)[i]? = some (f i) := by simp [bigL, h]
structure BigT (P : Program) (T : Tab) (t N : Nat) : Prop where
  ok : ∃ d e, T t = some d ∧ d.kind = .array N e ∧ d.size = N
section
variable {P : Program} {E : Env} {K : Exit → St → Prop} {T : Tab}
theorem run_loadBig (hT : Tab.fine P T) {t N : Nat} (hb : BigT P T t N) {ρ : Val} {m : Mem} {w : World} (hm : SatM E ρ m w) {x room : Nat} {el : Nat → List Value} (f : Nat → Value) (hx : m x = some (.arr t 1 N el room)) (hf : ∀ i, i < N → el i = [f i]) :
    (ρ x).2 = 0 ∧ (Instr.loadAt t (.pointer (some ⟨(ρ x).1, 0, none⟩))).run P w = .ok (bigA N f) w := by
  obtain ⟨d, e, h1, h2, h3⟩ := hb.ok
  obtain ⟨k1, _, a, ha, hs, he⟩ := hm.ok x _ hx
  refine ⟨k1, ?_⟩
  have := run_load_list (hT.ok t d h1) (w := w) (b := (ρ x).1) (o := 0) (cs := bigL N f) (by rw [bigL_len, h3]) fun j v hj => by
    have hlt : j < N := by have := (List.getElem?_eq_some_iff.1 hj).1; rw [bigL_len] at this; exact this
    rw [bigL_get N f hlt] at hj
    rw [Nat.zero_add, cell_of_heap ha]
    have h4 := (he j hlt).2 0 (by omega)
    rw [Nat.mul_one, Nat.add_zero, hf j hlt] at h4
    rw [h4, ← hj]
    rfl
  rw [this, h2]
  rfl
theorem GO.loadBig (hT : Tab.fine P T) {ops : Array Oper} {rest : List Oper} {o : Oper} {t N x room : Nat} {p : Operand} {t0 : Nat → TV} {m : Mem} {el : Nat → List Value} (f : Nat → Value) (hb : BigT P T t N) (hg : o.guard = none) (hop : o.op = .load t p) (hd : dstOk E.N o.dst = true) (hp : evT t0 p = .v (.c (.ptr x 0 1 0))) (hx : m x = some (.arr t 1 N el room)) (hf : ∀ i, i < N → el i = [f i])
    (k : GO P E ops K rest ⟨Sx.putT t0 o.dst (.v (.c (.k (bigA N f)))), m⟩) : GO P E ops K (o :: rest) ⟨t0, m⟩ := by
  intro ρ a w hs
  obtain ⟨h0, hr⟩ := run_loadBig hT hb hs.mem f hx hf
  have ep : a.eval p = .pointer (some ⟨(ρ x).1, 0, none⟩) := by
    have := hs.eval p
    rw [show (St.mk t0 m).ev p = _ from hp] at this
    have := this.2
    simpa [AV.conc, AC.conc, h0] using this
  have hrun : (execOp a.eval o).run P w = .ok (.value (bigA N f)) w := by
    simp only [execOp, hop, ep, Sem.run_bind, hr, Result.andThen_ok, Sem.run_pure]
  unfold wpList
  rw [if_pos (by simp [Region.wanted, hg])]
  refine .inl ?_
  exact Snd.go hs (dstOk_lt hd) (tv := .v (.c (.k (bigA N f)))) (Snd.here hs.mem hrun ⟨trivial, rfl⟩) fun ρ' a' w' hs'' => k ρ' a' w' hs''
theorem GO.storeBig (hT : Tab.fine P T) {ops : Array Oper} {rest : List Oper} {o : Oper} {t N x room : Nat} {p v : Operand} {t0 : Nat → TV} {m : Mem} {el : Nat → List Value} (f : Nat → Value) (hb : BigT P T t N) (hg : o.guard = none) (hop : o.op = .store t p v) (hd : o.dst = none) (hp : evT t0 p = .v (.c (.ptr x 0 1 0))) (hv : evT t0 v = .v (.c (.k (bigA N f)))) (hx : m x = some (.arr t 1 N el room)) (h1 : ∀ i, i < N → (f i).oneCell' = true)
    (k : GO P E ops K rest ⟨t0, up m x (some (.arr t 1 N (fun i => [f i]) room))⟩) : GO P E ops K (o :: rest) ⟨t0, m⟩ := by
  intro ρ a w hs
  obtain ⟨d, e, q1, q2, q3⟩ := hb.ok
  obtain ⟨k1, k2, cur, ha, hsz, he⟩ := hs.mem.ok x _ hx
  have ep : a.eval p = .pointer (some ⟨(ρ x).1, 0, none⟩) := by
    have := hs.eval p
    rw [show (St.mk t0 m).ev p = _ from hp] at this
    have := this.2
    simpa [AV.conc, AC.conc, k1] using this
  have ev : a.eval v = bigA N f := by
    have := hs.eval v
    rw [show (St.mk t0 m).ev v = _ from hv] at this
    exact this.2
  have hcl : (bigA N f).cells.toList = bigL N f := by simp [bigA, Value.cells]
  have hcs : (bigA N f).cells.size = N := by rw [← Array.length_toList, hcl, bigL_len]
  rw [Nat.mul_one] at hsz
  have hst := run_store_list (hT.ok t d q1) (b := (ρ x).1) (o := 0) (v := bigA N f) ha (by rw [hcs, q3]) (by rw [hcs]; omega) (fun u hu => by
    rw [hcl] at hu
    simp only [bigL, List.mem_map, List.mem_range] at hu
    obtain ⟨i, hi, rfl⟩ := hu
    exact h1 i hi)
  rw [hcl, hcs] at hst
  have hrun : (execOp a.eval o).run P w = .ok .skip (w.setRow (ρ x).1 (cur.toList.take 0 ++ bigL N f ++ cur.toList.drop (0 + N)).toArray) := by
    simp only [execOp, hop, ep, ev, Sem.run_bind, hst, Result.andThen_ok, Sem.run_pure]
  have hmem := hs.mem.setArr hx (n2 := N) (room2 := room) (el2 := fun i => [f i]) (cs := (cur.toList.take 0 ++ bigL N f ++ cur.toList.drop (0 + N)).toArray) ha (by
    simp only [List.size_toArray, List.length_append, List.length_take, List.length_drop, Array.length_toList, bigL_len]
    omega) fun i hi => ⟨rfl, fun j hj => by
      have : j = 0 := by omega
      subst this
      simp only [List.take_zero, List.nil_append, List.getElem?_toArray, Nat.mul_one, Nat.add_zero]
      rw [List.getElem?_append_left (by rw [bigL_len]; exact hi), bigL_get N f hi]
      rfl⟩
  unfold wpList
  rw [if_pos (by simp [Region.wanted, hg])]
  refine .inl ?_
  unfold Oper.wp
  rw [hrun]
  refine k ρ _ _ ?_
  have := (hs.move hmem (fun q hq => isSome_up q hq) fun _ _ => rfl).putT (d := o.dst) (fun q hq => by rw [hd] at hq; cases hq) (tv := .unk) (v := undef) trivial
  rw [hd] at this ⊢
  exact this
/-- A call that answers with a great array: the temporary holds it whole. -/
theorem GO.callBig {ops : Array Oper} {rest : List Oper} {st : St} {o : Oper} {c : Call} {f : FuncId} {avs : List AV} {caps : List Cap} (N : Nat) (g : Nat → Value) (hg : o.guard = none) (hop : o.op = .call c) (he : callE st.t c = .mk f avs caps) (hd : dstOk E.N o.dst = true)
    (hcf : ∀ (args : Array Value) (w : World), (callFunc f args).run P w = .ok (.enter f args) w)
    (hc : ∀ ρ w, SatM E ρ st.m w → (∀ v ∈ avs, v.ok ρ st.m) → Calls P f (avs.map (AV.conc ρ) ++ caps.map (Cap.conc ρ)).toArray w fun e w' => e = .returned (bigA N g) ∧ Below w.heap.size w w')
    (k : GO P E ops K rest ⟨Sx.putT st.t o.dst (.v (.c (.k (bigA N g)))), st.m⟩) : GO P E ops K (o :: rest) st := by
  refine GO.call hg hop he hcf fun ρ a w hs hok _ => (hc ρ w hs.mem hok).mono ?_
  rintro e w' ⟨rfl, hb⟩
  exact ⟨_, ρ, _, rfl, (hs.below hb).putT (dstOk_lt hd) (tv := .v (.c (.k (bigA N g)))) ⟨trivial, rfl⟩, k⟩
/-- A function that answers with a great array, which it holds in a variable of its own. -/
def endBig (fn : Func) (t N : Nat) (f : Nat → Value) : Exit → St → Prop := fun e st => (e = .ret ∨ e = .normal) ∧ ∃ b x el room, fn.results.toList = [.cell b t] ∧ st.t b = .v (.c (.ptr x 0 1 0)) ∧ st.m x = some (.arr t 1 N el room) ∧ ∀ i, i < N → el i = [f i]
theorem enterBig (hT : Tab.fine P T) {g : FuncId} {fn : Func} {c : Code} {args : Array Value} {w : World} (t N : Nat) (f : Nat → Value) (hb : BigT P T t N) (hf : P.funcs[g]? = some fn) (hbd : fn.body = some c) (M : Nat) (hM : fn.ntmps = M) (avs : List AV) (l : List Inp)
    (hargs : args = (avs.map (AV.conc (inpsV l))).toArray) (hl : Nat.ble avs.length M = true) (hr : allRd w l) (ha : allInps l avs)
    (h : G P ⟨w, [], M⟩ (endBig fn t N f) c ⟨argsT avs, lkM (inpsM l)⟩) : Calls P g args w fun e w' => e = .returned (bigA N f) ∧ Below w.heap.size w w' := by
  subst hM
  refine enter (E := ⟨w, [], fn.ntmps⟩) hf hbd (inpsV l) (Sat.init hr ha hargs (Nat.le_of_ble_eq_true hl)) (h.mono fun e st hk => ⟨hk.1, fun ρ a w' hs => ?_⟩)
  obtain ⟨b, x, el, room, h1, h2, h3, h4⟩ := hk.2
  obtain ⟨h0, hrun⟩ := run_loadBig hT hb hs.mem f h3 h4
  have hbv := hs.tm b
  rw [h2] at hbv
  have eb : a.tmps.getD b undef = .pointer (some ⟨(ρ x).1, 0, none⟩) := by
    have := hbv.2
    simpa [AV.conc, AC.conc, h0] using this
  refine ⟨_, results_one h1 ?_, rfl, hs.mem.fr.toBelow⟩
  simp only [Instr.loadAt, Instr.sureAddr, Sem.run_bind, Sem.run_pure, Result.andThen_ok] at hrun
  simp only [resSem, eb, asAddr, Sem.run_bind, Sem.run_pure, Result.andThen_ok, hrun]
end
end Go.Sx
/- The symbolic executor, part AM: a row that a call has made gets another name; a nil list gets a name. Generic over P. -/
set_option linter.unusedVariables false
set_option linter.unusedSimpArgs false
namespace Go.Sx
open Go.RowKit
section
variable {P : Program} {E : Env} {K : Exit → St → Prop} {T : Tab}
theorem SatM.addRow2 {ρ : Val} {m : Mem} {w' : World} {g0 : Nat} (h : SatM E ρ m w') {x n sz c : Nat} (hx : m x = none) (hx2 : m (x + 50) = none) (hxb : Nat.blt (x + 50) 1000 = true) {A : Option Addr} {el : Nat → List Value}
    (hr : 0 < n → ∃ b o, A = some ⟨b, o, none⟩ ∧ g0 ≤ b ∧ b < w'.heap.size ∧ (∀ y k, m y = some k → k.own → (ρ y).1 ≠ b) ∧ ∀ i, i < n → (el i).length = sz ∧ ∀ j, j < sz → w'.cell? ⟨b, o + (i * sz + j), none⟩ = (el i)[j]?) (hsp : ∀ a, A = some a → a.spot = none) (hcn : n ≤ c) :
    ∃ ρ' : Val, (∀ y, (m y).isSome = true → ρ' y = ρ y) ∧ SatM E ρ' (rowM m x n sz el) w' ∧ AC.ok ρ' (rowM m x n sz el) (.row x n g0) ∧ AC.conc ρ' (.row x n g0) = .slice A n c := by
  have hxb : x + 50 < 1000 := by simpa [Nat.blt_eq] using hxb
  obtain ⟨p, hp0⟩ : ∃ p : Nat × Nat, p = (A.map fun a => (a.block, a.off)).getD (0, 0) := ⟨_, rfl⟩
  obtain ⟨q, hq0⟩ : ∃ q : Nat × Nat, q = (c, (A.map fun _ => 1).getD 0) := ⟨_, rfl⟩
  obtain ⟨ρ', hρ'⟩ : ∃ ρ' : Val, ρ' = up (up ρ x p) (x + 50) q := ⟨_, rfl⟩
  have e1 : ρ' x = p := by rw [hρ', up_other _ _ (by omega), up_same]
  have e2 : ρ' (x + 50) = q := by rw [hρ', up_same]
  have e3 : ∀ y, y ≠ x → y ≠ x + 50 → ρ' y = ρ y := fun y h1 h2 => by rw [hρ', up_other _ _ h2, up_other _ _ h1]
  have hρ : ∀ y, (m y).isSome = true → ρ' y = ρ y := fun y hy => e3 y (fun e => by subst e; simp [hx] at hy) (fun e => by subst e; simp [hx2] at hy)
  have hm : ∀ y b, rowM m x n sz el y = some b → (y = x + 50 ∧ b = .ro 0 0 fun _ => []) ∨ (y = x ∧ b = .ro sz n el) ∨ (y ≠ x ∧ y ≠ x + 50 ∧ m y = some b) := by
    intro y b hy
    unfold rowM at hy
    by_cases h1 : y = x + 50
    · subst h1
      rw [up_same] at hy
      injection hy with hy
      exact .inl ⟨rfl, hy.symm⟩
    · rw [up_other _ _ h1] at hy
      by_cases h2 : y = x
      · subst h2
        rw [up_same] at hy
        injection hy with hy
        exact .inr (.inl ⟨rfl, hy.symm⟩)
      · rw [up_other _ _ h2] at hy
        exact .inr (.inr ⟨h2, h1, hy⟩)
  have hp : 0 < n → g0 ≤ p.1 ∧ p.1 < w'.heap.size ∧ A = some ⟨p.1, p.2, none⟩ ∧ (∀ y k, m y = some k → k.own → (ρ y).1 ≠ p.1) ∧ ∀ i, i < n → (el i).length = sz ∧ ∀ j, j < sz → w'.cell? ⟨p.1, p.2 + (i * sz + j), none⟩ = (el i)[j]? := by
    intro h0
    obtain ⟨b, o, rfl, h1, h2, hn, h3⟩ := hr h0
    subst hp0
    exact ⟨h1, h2, rfl, hn, h3⟩
  have hsome : ∀ y, (m y).isSome = true → (rowM m x n sz el y).isSome = true := fun y hy => isSome_rowM y hy
  refine ⟨ρ', hρ, ⟨h.fr, fun r hr => ?_, fun y b hy => ?_, fun y z b d hy hz hb hd hne => ?_⟩, ⟨?_, ?_, fun h0 => ?_, ?_⟩, ?_⟩
  · have := h.bo r hr
    rw [e3 _ (by omega) (by omega)]; exact this
  · rcases hm y b hy with ⟨rfl, rfl⟩ | ⟨rfl, rfl⟩ | ⟨h1, h2, h3⟩
    · intro h0; omega
    · intro h0
      obtain ⟨_, h2, _, _, h3⟩ := hp h0
      rw [e1]
      exact ⟨h2, h3⟩
    · have hk := h.ok y b h3
      have ey : ρ' y = ρ y := e3 y h1 h2
      cases b with
      | var ty cells =>
        have hcm : cells.map (AC.conc ρ') = cells.map (AC.conc ρ) := List.map_congr_left fun c hm => AC.conc_mono hρ (hk.2.2.2 c hm)
        exact ⟨by rw [ey]; exact hk.1, by rw [ey]; exact hk.2.1, by rw [ey, hcm]; exact hk.2.2.1, fun c hc => AC.ok_mono hsome hρ (hk.2.2.2 c hc)⟩
      | arr ty sz n el room =>
        obtain ⟨k1, k2, a, ha, hs, he⟩ := hk
        exact ⟨by rw [ey]; exact k1, by rw [ey]; exact k2, a, by rw [ey]; exact ha, hs, he⟩
      | obj Q =>
        obtain ⟨k1, k2, a, ha, hs⟩ := hk
        exact ⟨by rw [ey]; exact k1, by rw [ey]; exact k2, a, by rw [ey]; exact ha, hs⟩
      | ro sz n el =>
        intro hn
        rw [ey]
        exact hk hn
  · rcases hm y b hy with ⟨rfl, rfl⟩ | ⟨rfl, rfl⟩ | ⟨h1, h2, h3⟩
    · exact hb.elim
    · exact hb.elim
    · rcases hm z d hz with ⟨rfl, rfl⟩ | ⟨rfl, rfl⟩ | ⟨k1, k2, k3⟩
      · exact absurd hd (Nat.lt_irrefl 0)
      · have := (hp hd).2.2.2.1 y b h3 hb
        rw [e1, e3 y h1 h2]
        exact this
      · rw [e3 y h1 h2, e3 z k1 k2]
        exact h.ne y z b d h3 k3 hb hd hne
  · unfold rowM
    rw [up_other _ _ (by omega), up_same]; rfl
  · unfold rowM
    rw [up_same]; rfl
  · obtain ⟨h1, h2, h3, _⟩ := hp h0
    refine ⟨?_, by rw [e1]; exact h1⟩
    rw [e2, hq0, h3]
    exact Nat.one_ne_zero
  · rw [e2, hq0]
    exact hcn
  · simp only [AC.conc, _root_.Go.Sx.rowAd, e1, e2, hq0, hp0]
    cases A with
    | none => rfl
    | some a =>
      have := hsp a rfl
      obtain ⟨b, o, s⟩ := a
      simp only at this
      subst this
      rfl
theorem G.named {c : Code} {t : Nat → TV} {m : Mem} {x d n sz g : Nat} {el : Nat → List Value} {tv : TV} (hx : m x = none) (hx2 : m (x + 50) = none) (hxb : Nat.blt (x + 50) 1000 = true) (ht : t d = tv)
    (h : ∀ ρ w, SatM E ρ m w → ∀ u, tv.rep ρ m u → ∃ A cp, u = .slice A n cp ∧ n ≤ cp ∧ (∀ a, A = some a → a.spot = none) ∧ (0 < n → ∃ b o, A = some ⟨b, o, none⟩ ∧ g ≤ b ∧ b < w.heap.size ∧ (∀ y k, m y = some k → k.own → (ρ y).1 ≠ b) ∧ ∀ i, i < n → (el i).length = sz ∧ ∀ j, j < sz → w.cell? ⟨b, o + (i * sz + j), none⟩ = (el i)[j]?))
    (k : G P E K c ⟨up t d (.v (.c (.row x n g))), rowM m x n sz el⟩) : G P E K c ⟨t, m⟩ := by
  intro ρ a w hs
  have hd := hs.tm d
  rw [show (St.mk t m).t d = tv from ht] at hd
  obtain ⟨A, cp, hu, hcn, hsp, hr⟩ := h ρ w hs.mem _ hd
  obtain ⟨ρ', h1, h2, h3, h4⟩ := hs.mem.addRow2 hx hx2 hxb hr hsp hcn
  have hmv := hs.move h2 (fun y hy => isSome_rowM y hy) h1
  refine k ρ' a w ⟨h2, hmv.df, hmv.sz, fun j => ?_⟩
  by_cases hj : j = d
  · subst hj
    show TV.rep ρ' _ (up t j _ j) _
    rw [up_same]
    exact ⟨h3, by rw [hu]; exact h4.symm⟩
  · show TV.rep ρ' _ (up t d _ j) _
    rw [up_other _ _ hj]
    exact hmv.tm j
/-- Another name for a row that a call has made. -/
theorem G.renRow {c : Code} {t : Nat → TV} {m : Mem} (x y d : Nat) {n sz g : Nat} {el : Nat → List Value} (hm : m x = some (.ro sz n el)) (ht : t d = .v (.c (.row x n g))) (hy : m y = none) (hy2 : m (y + 50) = none) (hyb : Nat.blt (y + 50) 1000 = true)
    (k : G P E K c ⟨up t d (.v (.c (.row y n g))), rowM m y n sz el⟩) : G P E K c ⟨t, m⟩ := by
  refine G.named hy hy2 hyb ht (fun ρ w hs u hu => ?_) k
  obtain ⟨⟨o1, o2, o3, o4⟩, rfl⟩ := hu
  refine ⟨rowAd ρ x, _, rfl, o4, fun a ha => ?_, fun h0 => ?_⟩
  · unfold rowAd at ha
    split at ha
    · cases ha
    · injection ha with ha; subst ha; rfl
  · obtain ⟨h1, h2⟩ := hs.ok x _ hm h0
    refine ⟨(ρ x).1, (ρ x).2, if_neg (o3 h0).1, (o3 h0).2, h1, fun z b hz hb => ?_, h2⟩
    exact hs.ne z x b _ hz hm hb h0 (fun e => by subst e; rw [hm] at hz; injection hz with hz; subst hz; exact hb.elim)
/-- A name for an empty list. -/
theorem G.nilRowA {c : Code} {t : Nat → TV} {m : Mem} {A0 : Option Addr} (y d sz g : Nat) (el : Nat → List Value) (hA : ∀ a, A0 = some a → a.spot = none) (ht : t d = .v (.c (.k (.slice A0 0 0)))) (hy : m y = none) (hy2 : m (y + 50) = none) (hyb : Nat.blt (y + 50) 1000 = true)
    (k : G P E K c ⟨up t d (.v (.c (.row y 0 g))), rowM m y 0 sz el⟩) : G P E K c ⟨t, m⟩ := by
  refine G.named hy hy2 hyb ht (fun ρ w hs u hu => ?_) k
  obtain ⟨_, rfl⟩ := hu
  exact ⟨A0, 0, rfl, Nat.le_refl _, hA, fun h0 => absurd h0 (Nat.lt_irrefl 0)⟩
/-- A name for nil. -/
theorem G.nilRow {c : Code} {t : Nat → TV} {m : Mem} (y d sz g : Nat) (el : Nat → List Value) (ht : t d = .v (.c (.k (.slice none 0 0)))) (hy : m y = none) (hy2 : m (y + 50) = none) (hyb : Nat.blt (y + 50) 1000 = true)
    (k : G P E K c ⟨up t d (.v (.c (.row y 0 g))), rowM m y 0 sz el⟩) : G P E K c ⟨t, m⟩ :=
  G.nilRowA y d sz g el (fun a ha => by cases ha) ht hy hy2 hyb k
end
end Go.Sx
/- Chapter 38: records and their faults. -/
set_option linter.unusedVariables false
set_option linter.unusedSimpArgs false
set_option maxRecDepth 8000
set_option maxHeartbeats 1000000
namespace Go.Proofs.Ytpoalimbjeehkaa
open Go.Sx Go.RowKit
abbrev Rc := Int × Int
def elR (l : List Rc) (i : Nat) : List Value := [I (l.getD i (0, 0)).1, I (l.getD i (0, 0)).2]
def amtR (n : Int) : Bool := decide (n ≥ -1099511627776) && decide (n ≤ 1099511627776)
theorem amount_any (n : Int) (w : World) : Calls Try.prog 32 #[I n] w fun e w' => e = .returned (.bool (amtR n)) ∧ Below w.heap.size w w' := by
  refine enterPlain tfine Try.func32 rfl 9 Try.ntmps32 [.c (.k (I n))] [] rfl rfl trivial ⟨trivial, trivial⟩ ?_
  refine G.seqR tfine rfl trivial ?_
  refine G.seqR tfine rfl ?_ ?_
  · first | trivial | (simp [AllP, condB]; done) | (simp only [AllP]; and_intros <;> first | trivial | decide | omega) | (simp [AllP, condB]; intros; and_intros <;> first | assumption | omega) | (simp [AllP, condB]; intros; simp_all; done) | (simp [AllP, condB]; intros; simp_all; omega) | (simp [AllP, condB]; omega)
  exact G.ret (endK.ret rfl rfl)
theorem inRange_any (n : Int) (w : World) : Calls Try.prog 33 #[I n] w fun e w' => e = .returned (.bool (amtR n)) ∧ Below w.heap.size w w' := by
  refine enterPlain tfine Try.func33 rfl 9 Try.ntmps33 [.c (.k (I n))] [] rfl rfl trivial ⟨trivial, trivial⟩ ?_
  refine G.seqR tfine rfl trivial ?_
  refine G.seqR tfine rfl ?_ ?_
  · first | trivial | (simp [AllP, condB]; done) | (simp only [AllP]; and_intros <;> first | trivial | decide | omega) | (simp [AllP, condB]; intros; and_intros <;> first | assumption | omega) | (simp [AllP, condB]; intros; simp_all; done) | (simp [AllP, condB]; intros; simp_all; omega) | (simp [AllP, condB]; omega)
  exact G.ret (endK.ret rfl rfl)
def absR (n : Int) : Int := if IntKind.i64.wrap (0 - n) > n then IntKind.i64.wrap (0 - n) else n
theorem size_any (n : Int) (w : World) : Calls Try.prog 37 #[I n] w fun e w' => e = .returned (I (absR n)) ∧ Below w.heap.size w w' := by
  refine enterPlain tfine Try.func37 rfl 7 Try.ntmps37 [.c (.k (I n))] [] rfl rfl trivial ⟨trivial, trivial⟩ ?_
  refine G.seqR tfine rfl trivial ?_
  refine G.seqR tfine rfl ?_ ?_
  · first | trivial | (simp [AllP, condB]; done) | (simp only [AllP]; and_intros <;> first | trivial | decide | omega) | (simp [AllP, condB]; intros; and_intros <;> first | assumption | omega) | (simp [AllP, condB]; intros; simp_all; done) | (simp [AllP, condB]; intros; simp_all; omega) | (simp [AllP, condB]; omega)
  exact G.ret (endK.ret rfl rfl)
theorem refAbs_any (n : Int) (w : World) : Calls Try.prog 41 #[I n] w fun e w' => e = .returned (I (absR n)) ∧ Below w.heap.size w w' := by
  refine enterPlain tfine Try.func41 rfl 7 Try.ntmps41 [.c (.k (I n))] [] rfl rfl trivial ⟨trivial, trivial⟩ ?_
  refine G.seqR tfine rfl trivial ?_
  refine G.seqR tfine rfl ?_ ?_
  · first | trivial | (simp [AllP, condB]; done) | (simp only [AllP]; and_intros <;> first | trivial | decide | omega) | (simp [AllP, condB]; intros; and_intros <;> first | assumption | omega) | (simp [AllP, condB]; intros; simp_all; done) | (simp [AllP, condB]; intros; simp_all; omega) | (simp [AllP, condB]; omega)
  exact G.ret (endK.ret rfl rfl)
/-! ### The first fault -/
def badR (r : Rc) : Bool := (decide (r.1 < 1) || decide (r.1 > 1073741824)) || !(amtR r.2)
def chkF (l : List Rc) : Nat → Nat → Int × Int
  | _, 0 => (-1, 0)
  | k, c + 1 => if badR (l.getD k (0, 0)) = true then (k, 2) else if (decide ((k : Int) > 0) && decide ((l.getD k (0, 0)).1 ≤ (l.getD (k - 1) (0, 0)).1)) = true then (k, 5) else chkF l (k + 1) c
def chkR (l : List Rc) : Int × Int := if decide ((l.length : Int) > 14) = true then (-1, 8) else chkF l 0 l.length
theorem chkF_step (l : List Rc) {k n : Nat} (h : k < n) : chkF l k (n - k) = if badR (l.getD k (0, 0)) = true then ((k : Int), 2) else if (decide ((k : Int) > 0) && decide ((l.getD k (0, 0)).1 ≤ (l.getD (k - 1) (0, 0)).1)) = true then ((k : Int), 5) else chkF l (k + 1) (n - (k + 1)) := by
  have : n - k = (n - (k + 1)) + 1 := by omega
  rw [this, chkF]
theorem checkRc_any (A : Option Addr) (c : Nat) (l : List Rc) (w : World) (hl : RdRow w A l.length 2 (elR l)) :
    Calls Try.prog 12 #[.slice A l.length c] w fun e w' => e = .returned (.tuple #[I (chkR l).1, I (chkR l).2]) ∧ Below w.heap.size w w' := by
  refine enterPlain tfine Try.func12 rfl 48 Try.ntmps12 [.c (.inp 1000 A l.length c)] [⟨1000, A, 2, l.length, elR l⟩] rfl rfl ⟨hl, trivial⟩ ⟨.inl ⟨rfl, rfl, rfl⟩, trivial⟩ ?_
  refine G.seqR tfine rfl trivial ?_
  refine G.seq (G.seqR tfine rfl trivial ?_)
  refine G.cond (b := decide ((l.length : Int) > 14)) rfl (fun h => ?_) (fun h => ?_)
  · refine G.seqR tfine rfl trivial ?_
    refine G.ret (endK.ret rfl ?_)
    rw [chkR, if_pos h]
  have hch : chkR l = chkF l 0 l.length := by rw [chkR, if_neg (fne h)]
  rw [hch]
  have h := of_decide_eq_false h
  refine G.skip ?_
  refine G.seq (G.seqR tfine rfl trivial ?_)
  refine G.block (G.loop (fun k : Nat => St.of [(0, .v (.c (.inp 1000 A l.length c))), (9, .v (.c (.inp 1000 A l.length c))), (10, .v (.c (.k (I l.length)))), (11, .v (.c (.k (I k))))] [(1000, .ro 2 l.length (elR l))])
    (fun k => k ≤ l.length ∧ chkF l 0 l.length = chkF l k (l.length - k)) (fun k => l.length - k) 0 ⟨by omega, rfl⟩ (St.le_of rfl ⟨⟨_, rfl, Blk.le_refl _⟩, trivial⟩ ⟨rfl, rfl, rfl, rfl, trivial⟩) ?_)
  rintro k ⟨hk, hfi⟩
  refine G.seqR tfine rfl trivial ?_
  refine G.seq (G.cond (b := decide ((k : Int) < (l.length : Int))) rfl (fun h2 => ?_) (fun h2 => ?_))
  rotate_left
  · have h2 := of_decide_eq_false h2
    have : k = l.length := by omega
    subst this
    refine G.exit ?_
    refine G.seqR tfine rfl trivial ?_
    refine G.ret (endK.ret rfl ?_)
    rw [hfi, Nat.sub_self]
    rfl
  have h2 := of_decide_eq_true h2
  have hlt : k < l.length := by omega
  rw [chkF_step l hlt] at hfi
  have e0 : (IntKind.i64.wrap ((k : Int) - 1)).toNat = k - 1 := by
    rw [IntWalk.i64_in _ (by omega)]; omega
  obtain ⟨x, hx⟩ : ∃ x, x = (l.getD k (0, 0)).1 := ⟨_, rfl⟩
  obtain ⟨y, hy⟩ : ∃ y, y = (l.getD k (0, 0)).2 := ⟨_, rfl⟩
  obtain ⟨z, hz⟩ : ∃ z, z = (l.getD (k - 1) (0, 0)).1 := ⟨_, rfl⟩
  have hxy : l.getD k (0, 0) = (x, y) := by rw [hx, hy]
  rw [← hz, hxy] at hfi
  refine G.skip ?_
  refine G.seq (G.block ?_)
  refine G.seqR tfine rfl ⟨by simpa using hlt, by omega, by omega, trivial⟩ ?_
  rw [Int.toNat_natCast, ← hx, ← hy]
  refine G.block ?_
  refine G.seqC tfine rfl ?_ ?_
  · first | trivial | (simp [AllP, condB]; done) | (simp only [AllP]; and_intros <;> first | trivial | decide | omega) | (simp [AllP, condB]; intros; and_intros <;> first | assumption | omega) | (simp [AllP, condB]; intros; simp_all; done) | (simp [AllP, condB]; intros; simp_all; omega) | (simp [AllP, condB]; omega)
  refine GO.callGuard (.bool (amtR y)) rfl rfl rfl (by first | exact trivial | exact ⟨id, trivial⟩ | exact ⟨id, id, trivial⟩ | exact ⟨id, id, id, trivial⟩ | exact ⟨id, id, id, id, trivial⟩) rfl rfl (fun args w => Try.call32 args w) rfl (fun _ m' hle ρ w hs hok => amount_any y w) ?_
  refine GO.fin tfine rfl ?_ ?_
  · first | trivial | (simp [AllP, condB]; done) | (simp only [AllP]; and_intros <;> first | trivial | decide | omega) | (simp [AllP, condB]; intros; and_intros <;> first | assumption | omega) | (simp [AllP, condB]; intros; simp_all; done) | (simp [AllP, condB]; intros; simp_all; omega) | (simp [AllP, condB]; omega)
  refine G.cond (b := badR (x, y)) rfl (fun h3 => ?_) (fun h3 => ?_)
  · refine G.seqR tfine rfl trivial ?_
    refine G.ret (endK.ret rfl ?_)
    rw [hfi, if_pos h3]
  rw [if_neg (fne h3)] at hfi
  refine G.seqD tfine hmix [0, 1, 3, 7, 15, 7, 7, 71, 231, 487, 999, 2047, 4095, 8191] [] rfl rfl rfl rfl ?_ ?_
  · rw [e0, IntWalk.i64_in ((k : Int) - 1) (by omega)]
    simp [AllP, condB]
    try (and_intros <;> intros <;> first | omega | (and_intros <;> first | assumption | omega))
  rw [e0, ← hz]
  refine G.cond (b := (decide ((k : Int) > 0) && decide (x ≤ z))) rfl (fun h4 => ?_) (fun h4 => ?_)
  · refine G.seqR tfine rfl trivial ?_
    refine G.ret (endK.ret rfl ?_)
    rw [hfi, if_pos h4]
  rw [if_neg (fne h4)] at hfi
  refine G.skip ?_
  refine G.reg tfine rfl trivial ?_
  rw [IntWalk.i64_in ((k : Int) + 1) (by omega)]
  exact ⟨k + 1, ⟨by omega, hfi⟩, (by show l.length - (k + 1) < l.length - k; omega), St.le_of rfl ⟨⟨_, rfl, Blk.le_refl _⟩, trivial⟩ ⟨rfl, rfl, rfl, by simp [up, I], trivial⟩⟩
end Go.Proofs.Ytpoalimbjeehkaa
/- Chapter 38: right records and right questions; the code's side and the reference's. -/
set_option linter.unusedVariables false
set_option linter.unusedSimpArgs false
set_option maxRecDepth 8000
set_option maxHeartbeats 1000000
namespace Go.Proofs.Ytpoalimbjeehkaa
open Go.Sx Go.RowKit
def rightR (l : List Rc) : Bool := (chkR l).2 == 0
def askR (l : List Rc) (g tol : Int) : Int := if (!(rightR l)) = true then 1 else if ((!(amtR g) || decide (tol < 0)) || decide (tol > 1099511627776)) = true then 2 else 0
theorem right_any (A : Option Addr) (c : Nat) (l : List Rc) (w : World) (hl : RdRow w A l.length 2 (elR l)) :
    Calls Try.prog 47 #[.slice A l.length c] w fun e w' => e = .returned (.bool (rightR l)) ∧ Below w.heap.size w w' := by
  refine enterPlain tfine Try.func47 rfl 12 Try.ntmps47 [.c (.inp 1000 A l.length c)] [⟨1000, A, 2, l.length, elR l⟩] rfl rfl ⟨hl, trivial⟩ ⟨.inl ⟨rfl, rfl, rfl⟩, trivial⟩ ?_
  refine G.seqR tfine rfl trivial ?_
  refine G.seqC tfine rfl ?_ ?_
  · first | trivial | (simp [AllP, condB]; done) | (simp only [AllP]; and_intros <;> first | trivial | decide | omega) | (simp [AllP, condB]; intros; and_intros <;> first | assumption | omega) | (simp [AllP, condB]; intros; simp_all; done) | (simp [AllP, condB]; intros; simp_all; omega) | (simp [AllP, condB]; omega)
  refine GO.callPlain (v := .tuple #[I (chkR l).1, I (chkR l).2]) rfl rfl rfl rfl (fun args w => Try.call12 args w) (fun ρ w hs hok => checkRc_any A c l w (hs.row (cap := c) rfl (hok _ List.mem_cons_self))) ?_
  refine GO.fin tfine rfl ?_ ?_
  · first | trivial | (simp [AllP, condB]; done) | (simp only [AllP]; and_intros <;> first | trivial | decide | omega) | (simp [AllP, condB]; intros; and_intros <;> first | assumption | omega) | (simp [AllP, condB]; intros; simp_all; done) | (simp [AllP, condB]; intros; simp_all; omega) | (simp [AllP, condB]; omega)
  refine G.seqR tfine rfl trivial ?_
  exact G.ret (endK.ret rfl rfl)
theorem asked_any (A : Option Addr) (c : Nat) (l : List Rc) (g tol : Int) (w : World) (hl : RdRow w A l.length 2 (elR l)) :
    Calls Try.prog 34 #[.slice A l.length c, I g, I tol] w fun e w' => e = .returned (I (askR l g tol)) ∧ Below w.heap.size w w' := by
  refine enterPlain tfine Try.func34 rfl 23 Try.ntmps34 [.c (.inp 1000 A l.length c), .c (.k (I g)), .c (.k (I tol))] [⟨1000, A, 2, l.length, elR l⟩] rfl rfl ⟨hl, trivial⟩ ⟨.inl ⟨rfl, rfl, rfl⟩, trivial, trivial, trivial⟩ ?_
  refine G.seqR tfine rfl trivial ?_
  refine G.seq (G.block ?_)
  refine G.seqC tfine rfl ?_ ?_
  · first | trivial | (simp [AllP, condB]; done) | (simp only [AllP]; and_intros <;> first | trivial | decide | omega) | (simp [AllP, condB]; intros; and_intros <;> first | assumption | omega) | (simp [AllP, condB]; intros; simp_all; done) | (simp [AllP, condB]; intros; simp_all; omega) | (simp [AllP, condB]; omega)
  refine GO.callPlain (v := .bool (rightR l)) rfl rfl rfl rfl (fun args w => Try.call47 args w) (fun ρ w hs hok => right_any A c l w (hs.row (cap := c) rfl (hok _ List.mem_cons_self))) ?_
  refine GO.fin tfine rfl ?_ ?_
  · first | trivial | (simp [AllP, condB]; done) | (simp only [AllP]; and_intros <;> first | trivial | decide | omega) | (simp [AllP, condB]; intros; and_intros <;> first | assumption | omega) | (simp [AllP, condB]; intros; simp_all; done) | (simp [AllP, condB]; intros; simp_all; omega) | (simp [AllP, condB]; omega)
  refine G.cond (b := !(rightR l)) rfl (fun h1 => ?_) (fun h1 => ?_)
  · refine G.seqR tfine rfl trivial ?_
    refine G.ret (endK.ret rfl ?_)
    rw [askR, if_pos h1]
  refine G.seqC tfine rfl ?_ ?_
  · first | trivial | (simp [AllP, condB]; done) | (simp only [AllP]; and_intros <;> first | trivial | decide | omega) | (simp [AllP, condB]; intros; and_intros <;> first | assumption | omega) | (simp [AllP, condB]; intros; simp_all; done) | (simp [AllP, condB]; intros; simp_all; omega) | (simp [AllP, condB]; omega)
  refine GO.callPlain (v := .bool (amtR g)) rfl rfl rfl rfl (fun args w => Try.call32 args w) (fun ρ w hs hok => amount_any g w) ?_
  refine GO.fin tfine rfl ?_ ?_
  · first | trivial | (simp [AllP, condB]; done) | (simp only [AllP]; and_intros <;> first | trivial | decide | omega) | (simp [AllP, condB]; intros; and_intros <;> first | assumption | omega) | (simp [AllP, condB]; intros; simp_all; done) | (simp [AllP, condB]; intros; simp_all; omega) | (simp [AllP, condB]; omega)
  refine G.cond (b := (!(amtR g) || decide (tol < 0)) || decide (tol > 1099511627776)) rfl (fun h2 => ?_) (fun h2 => ?_)
  · refine G.seqR tfine rfl trivial ?_
    refine G.ret (endK.ret rfl ?_)
    rw [askR, if_neg (fne h1), if_pos h2]
  refine G.skip ?_
  refine G.seqR tfine rfl trivial ?_
  refine G.ret (endK.ret rfl ?_)
  rw [askR, if_neg (fne h1), if_neg (fne h2)]
end Go.Proofs.Ytpoalimbjeehkaa
/- Chapter 38: the reference's Check, right, start. -/
set_option linter.unusedVariables false
set_option linter.unusedSimpArgs false
set_option maxRecDepth 8000
set_option maxHeartbeats 1000000
namespace Go.Proofs.Ytpoalimbjeehkaa
open Go.Sx Go.RowKit
theorem refCheckRc_any (A : Option Addr) (c : Nat) (l : List Rc) (w : World) (hl : RdRow w A l.length 2 (elR l)) :
    Calls Try.prog 14 #[.slice A l.length c] w fun e w' => e = .returned (.tuple #[I (chkR l).1, I (chkR l).2]) ∧ Below w.heap.size w w' := by
  refine enterPlain tfine Try.func14 rfl 55 Try.ntmps14 [.c (.inp 1000 A l.length c)] [⟨1000, A, 2, l.length, elR l⟩] rfl rfl ⟨hl, trivial⟩ ⟨.inl ⟨rfl, rfl, rfl⟩, trivial⟩ ?_
  refine G.seqR tfine rfl trivial ?_
  refine G.seq ?_
  refine G.seqR tfine rfl trivial ?_
  refine G.cond (b := decide ((l.length : Int) > 14)) rfl (fun h => ?_) (fun h => ?_)
  · refine G.seqR tfine rfl trivial ?_
    refine G.ret (endK.ret rfl ?_)
    rw [chkR, if_pos h]
  have hch : chkR l = chkF l 0 l.length := by rw [chkR, if_neg (fne h)]
  rw [hch]
  have h := of_decide_eq_false h
  refine G.skip ?_
  refine G.seq ?_
  refine G.seqR tfine rfl trivial ?_
  refine G.block (G.loop (fun k : Nat => St.of [(0, .v (.c (.inp 1000 A l.length c))), (4, .v (.c (.k (I k))))] [(1000, .ro 2 l.length (elR l))])
    (fun k => k ≤ l.length ∧ chkF l 0 l.length = chkF l k (l.length - k)) (fun k => l.length - k) 0 ⟨by omega, rfl⟩ (St.le_of rfl ⟨⟨_, rfl, Blk.le_refl _⟩, trivial⟩ ⟨rfl, rfl, trivial⟩) ?_)
  rintro k ⟨hk, hfi⟩
  refine G.seq ?_
  refine G.seqR tfine rfl trivial ?_
  refine G.cond (b := decide ((k : Int) < (l.length : Int))) rfl (fun h2 => ?_) (fun h2 => ?_)
  rotate_left
  · have h2 := of_decide_eq_false h2
    have : k = l.length := by omega
    subst this
    refine G.exit ?_
    refine G.seqR tfine rfl trivial ?_
    refine G.ret (endK.ret rfl ?_)
    rw [hfi, Nat.sub_self]
    rfl
  have h2 := of_decide_eq_true h2
  have hlt : k < l.length := by omega
  rw [chkF_step l hlt] at hfi
  have e0 : (IntKind.i64.wrap ((k : Int) - 1)).toNat = k - 1 := by
    rw [IntWalk.i64_in _ (by omega)]; omega
  obtain ⟨x, hx⟩ : ∃ x, x = (l.getD k (0, 0)).1 := ⟨_, rfl⟩
  obtain ⟨y, hy⟩ : ∃ y, y = (l.getD k (0, 0)).2 := ⟨_, rfl⟩
  obtain ⟨z, hz⟩ : ∃ z, z = (l.getD (k - 1) (0, 0)).1 := ⟨_, rfl⟩
  have hxy : l.getD k (0, 0) = (x, y) := by rw [hx, hy]
  rw [← hz, hxy] at hfi
  refine G.skip ?_
  refine G.seq (G.block ?_)
  refine G.seq ?_
  refine G.seqC tfine rfl ?_ ?_
  · simp [AllP, condB]
    try (and_intros <;> intros <;> first | omega | (and_intros <;> first | assumption | omega))
  rw [Int.toNat_natCast, ← hx, ← hy]
  refine GO.callGuard (.bool (amtR y)) rfl rfl rfl (by first | exact trivial | exact ⟨id, trivial⟩ | exact ⟨id, id, trivial⟩ | exact ⟨id, id, id, trivial⟩ | exact ⟨id, id, id, id, trivial⟩) rfl rfl (fun args w => Try.call33 args w) rfl (fun _ m' hle ρ w hs hok => inRange_any y w) ?_
  refine GO.fin tfine rfl ?_ ?_
  · first | trivial | (simp [AllP, condB]; done) | (simp only [AllP]; and_intros <;> first | trivial | decide | omega) | (simp [AllP, condB]; intros; and_intros <;> first | assumption | omega) | (simp [AllP, condB]; intros; simp_all; done) | (simp [AllP, condB]; intros; simp_all; omega) | (simp [AllP, condB]; omega)
  refine G.cond (b := badR (x, y)) rfl (fun h3 => ?_) (fun h3 => ?_)
  · refine G.seqR tfine rfl trivial ?_
    refine G.ret (endK.ret rfl ?_)
    rw [hfi, if_pos h3]
  rw [if_neg (fne h3)] at hfi
  refine G.skip ?_
  refine G.seqD tfine hmix [0, 1, 3, 7, 7, 23, 63, 127, 255, 7, 7, 1543, 3591, 7687, 16383, 32767] [] rfl rfl rfl rfl ?_ ?_
  · rw [e0, IntWalk.i64_in ((k : Int) - 1) (by omega)]
    simp [AllP, condB]
    try (and_intros <;> intros <;> first | omega | (and_intros <;> first | assumption | omega))
  rw [e0, ← hz, Int.toNat_natCast, ← hx]
  refine G.cond (b := (decide ((k : Int) > 0) && decide (z ≥ x))) rfl (fun h4 => ?_) (fun h4 => ?_)
  · refine G.seqR tfine rfl trivial ?_
    refine G.ret (endK.ret rfl ?_)
    rw [hfi, if_pos h4]
  rw [if_neg (fne h4)] at hfi
  refine G.skip ?_
  refine G.reg tfine rfl trivial ?_
  rw [IntWalk.i64_in ((k : Int) + 1) (by omega)]
  exact ⟨k + 1, ⟨by omega, hfi⟩, (by show l.length - (k + 1) < l.length - k; omega), St.le_of rfl ⟨⟨_, rfl, Blk.le_refl _⟩, trivial⟩ ⟨rfl, by simp [up, I], trivial⟩⟩
theorem refRight_any (A : Option Addr) (c : Nat) (l : List Rc) (w : World) (hl : RdRow w A l.length 2 (elR l)) :
    Calls Try.prog 49 #[.slice A l.length c] w fun e w' => e = .returned (.bool (rightR l)) ∧ Below w.heap.size w w' := by
  refine enterPlain tfine Try.func49 rfl 12 Try.ntmps49 [.c (.inp 1000 A l.length c)] [⟨1000, A, 2, l.length, elR l⟩] rfl rfl ⟨hl, trivial⟩ ⟨.inl ⟨rfl, rfl, rfl⟩, trivial⟩ ?_
  refine G.seqR tfine rfl trivial ?_
  refine G.seqC tfine rfl ?_ ?_
  · first | trivial | (simp [AllP, condB]; done) | (simp only [AllP]; and_intros <;> first | trivial | decide | omega) | (simp [AllP, condB]; intros; and_intros <;> first | assumption | omega) | (simp [AllP, condB]; intros; simp_all; done) | (simp [AllP, condB]; intros; simp_all; omega) | (simp [AllP, condB]; omega)
  refine GO.callPlain (v := .tuple #[I (chkR l).1, I (chkR l).2]) rfl rfl rfl rfl (fun args w => Try.call14 args w) (fun ρ w hs hok => refCheckRc_any A c l w (hs.row (cap := c) rfl (hok _ List.mem_cons_self))) ?_
  refine GO.fin tfine rfl ?_ ?_
  · first | trivial | (simp [AllP, condB]; done) | (simp only [AllP]; and_intros <;> first | trivial | decide | omega) | (simp [AllP, condB]; intros; and_intros <;> first | assumption | omega) | (simp [AllP, condB]; intros; simp_all; done) | (simp [AllP, condB]; intros; simp_all; omega) | (simp [AllP, condB]; omega)
  refine G.seqR tfine rfl trivial ?_
  exact G.ret (endK.ret rfl rfl)
theorem start_any (A : Option Addr) (c : Nat) (l : List Rc) (g tol : Int) (w : World) (hl : RdRow w A l.length 2 (elR l)) :
    Calls Try.prog 40 #[.slice A l.length c, I g, I tol] w fun e w' => e = .returned (I (askR l g tol)) ∧ Below w.heap.size w w' := by
  refine enterPlain tfine Try.func40 rfl 21 Try.ntmps40 [.c (.inp 1000 A l.length c), .c (.k (I g)), .c (.k (I tol))] [⟨1000, A, 2, l.length, elR l⟩] rfl rfl ⟨hl, trivial⟩ ⟨.inl ⟨rfl, rfl, rfl⟩, trivial, trivial, trivial⟩ ?_
  refine G.seqR tfine rfl trivial ?_
  refine G.seq ?_
  refine G.seqC tfine rfl ?_ ?_
  · first | trivial | (simp [AllP, condB]; done) | (simp only [AllP]; and_intros <;> first | trivial | decide | omega) | (simp [AllP, condB]; intros; and_intros <;> first | assumption | omega) | (simp [AllP, condB]; intros; simp_all; done) | (simp [AllP, condB]; intros; simp_all; omega) | (simp [AllP, condB]; omega)
  refine GO.callPlain (v := .bool (rightR l)) rfl rfl rfl rfl (fun args w => Try.call49 args w) (fun ρ w hs hok => refRight_any A c l w (hs.row (cap := c) rfl (hok _ List.mem_cons_self))) ?_
  refine GO.fin tfine rfl ?_ ?_
  · first | trivial | (simp [AllP, condB]; done) | (simp only [AllP]; and_intros <;> first | trivial | decide | omega) | (simp [AllP, condB]; intros; and_intros <;> first | assumption | omega) | (simp [AllP, condB]; intros; simp_all; done) | (simp [AllP, condB]; intros; simp_all; omega) | (simp [AllP, condB]; omega)
  refine G.cond (b := !(rightR l)) rfl (fun h1 => ?_) (fun h1 => ?_)
  · refine G.seqR tfine rfl trivial ?_
    refine G.ret (endK.ret rfl ?_)
    rw [askR, if_pos h1]
  refine G.skip ?_
  refine G.seq ?_
  refine G.seqC tfine rfl ?_ ?_
  · first | trivial | (simp [AllP, condB]; done) | (simp only [AllP]; and_intros <;> first | trivial | decide | omega) | (simp [AllP, condB]; intros; and_intros <;> first | assumption | omega) | (simp [AllP, condB]; intros; simp_all; done) | (simp [AllP, condB]; intros; simp_all; omega) | (simp [AllP, condB]; omega)
  refine GO.callPlain (v := .bool (amtR g)) rfl rfl rfl rfl (fun args w => Try.call33 args w) (fun ρ w hs hok => inRange_any g w) ?_
  refine GO.fin tfine rfl ?_ ?_
  · first | trivial | (simp [AllP, condB]; done) | (simp only [AllP]; and_intros <;> first | trivial | decide | omega) | (simp [AllP, condB]; intros; and_intros <;> first | assumption | omega) | (simp [AllP, condB]; intros; simp_all; done) | (simp [AllP, condB]; intros; simp_all; omega) | (simp [AllP, condB]; omega)
  refine G.cond (b := (!(amtR g) || decide (tol < 0)) || decide (tol > 1099511627776)) rfl (fun h2 => ?_) (fun h2 => ?_)
  · refine G.seqR tfine rfl trivial ?_
    refine G.ret (endK.ret rfl ?_)
    rw [askR, if_neg (fne h1), if_pos h2]
  refine G.skip ?_
  refine G.seqR tfine rfl trivial ?_
  refine G.ret (endK.ret rfl ?_)
  rw [askR, if_neg (fne h1), if_neg (fne h2)]
end Go.Proofs.Ytpoalimbjeehkaa
/- Chapter 38: bits of a set; the reference's sum. -/
set_option linter.unusedVariables false
set_option linter.unusedSimpArgs false
set_option maxRecDepth 8000
set_option maxHeartbeats 1000000
namespace Go.Proofs.Ytpoalimbjeehkaa
open Go.Sx Go.RowKit
theorem pow_min64 (s : Nat) (hs : s ≤ 64) : (2 : Int) ^ (min ((s : Nat) : Int).toNat IntKind.i64.bits) = ((2 ^ s : Nat) : Int) := by
  rw [Int.toNat_natCast, show IntKind.i64.bits = 64 from rfl, Nat.min_eq_left hs]; simp
theorem two_pow13 {i : Nat} (h : i ≤ 14) : 2 ^ i ≤ 16384 := Nat.pow_le_pow_right (n := 2) (by decide) h
theorem shl1 (i : Nat) (h : i ≤ 14) : IntKind.i64.wrap (1 * 2 ^ (min ((i : Nat) : Int).toNat IntKind.i64.bits)) = ((2 ^ i : Nat) : Int) := by
  rw [pow_min64 i (by omega), Int.one_mul, IntWalk.i64_in]
  have := two_pow13 h
  generalize 2 ^ i = p at *
  omega
/-- The test of a bit. -/
def bitC (s i : Nat) : Bool := bitsOp .and .i64 ((s : Int).fdiv (2 ^ (min ((i : Nat) : Int).toNat IntKind.i64.bits))) 1 == 1
theorem bitC_eq (s i : Nat) (hs : s < 16384) (hi : i ≤ 64) : bitC s i = s.testBit i := by
  rw [bitC, pow_min64 i hi, Int.fdiv_eq_ediv_of_nonneg _ (Int.natCast_nonneg _), ← Int.natCast_ediv]
  have hq : s / 2 ^ i < 2 ^ 64 := Nat.lt_of_le_of_lt (Nat.div_le_self _ _) (by omega)
  have : bitsOp .and .i64 ((s / 2 ^ i : Nat) : Int) 1 = ((s / 2 ^ i % 2 : Nat) : Int) := by
    show IntKind.i64.wrap (((BitVec.ofInt 64 ((s / 2 ^ i : Nat) : Int) &&& BitVec.ofInt 64 1).toNat : Nat) : Int) = _
    rw [BitVec.ofInt_natCast, show BitVec.ofInt 64 1 = BitVec.ofNat 64 1 from rfl, BitVec.toNat_and, BitVec.toNat_ofNat, BitVec.toNat_ofNat, Nat.mod_eq_of_lt hq, show 1 % 2 ^ 64 = 1 by rfl, Nat.and_one_is_mod, IntWalk.i64_in]
    generalize s / 2 ^ i = q at *
    omega
  rw [this, Nat.testBit_eq_decide_div_mod_eq]
  rw [Bool.eq_iff_iff]
  generalize s / 2 ^ i = q at *
  rw [beq_iff_eq, decide_eq_true_iff]
  omega
/-- The union of a great bit and a set below it. -/
theorem orBit (i s : Nat) (hi : i ≤ 14) (hs : s < 2 ^ i) : bitsOp .or .i64 ((2 ^ i : Nat) : Int) (s : Int) = ((2 ^ i + s : Nat) : Int) := by
  have hp := two_pow13 hi
  show IntKind.i64.wrap (((BitVec.ofInt 64 ((2 ^ i : Nat) : Int) ||| BitVec.ofInt 64 (s : Int)).toNat : Nat) : Int) = _
  have e : 2 ^ i ||| s = 2 ^ i + s := by
    have := Nat.two_pow_add_eq_or_of_lt hs 1
    simpa using this.symm
  rw [BitVec.ofInt_natCast, BitVec.ofInt_natCast, BitVec.toNat_or, BitVec.toNat_ofNat, BitVec.toNat_ofNat, Nat.mod_eq_of_lt (show 2 ^ i < 2 ^ 64 by omega), Nat.mod_eq_of_lt (show s < 2 ^ 64 by omega), e, IntWalk.i64_in]
  generalize 2 ^ i = p at *
  omega
/-! ### The sum of a set -/
def sumW (l : List Rc) (s : Nat) : Nat → Int
  | 0 => 0
  | k + 1 => if s.testBit k = true then IntKind.i64.wrap (sumW l s k + (l.getD k (0, 0)).2) else sumW l s k
theorem refSum_any (A : Option Addr) (c : Nat) (l : List Rc) (s : Nat) (w : World) (hl : RdRow w A l.length 2 (elR l)) (hs : s < 16384) (hn : l.length ≤ 14) :
    Calls Try.prog 42 #[.slice A l.length c, I s] w fun e w' => e = .returned (I (sumW l s l.length)) ∧ Below w.heap.size w w' := by
  refine enterPlain tfine Try.func42 rfl 26 Try.ntmps42 [.c (.inp 1000 A l.length c), .c (.k (I s))] [⟨1000, A, 2, l.length, elR l⟩] rfl rfl ⟨hl, trivial⟩ ⟨.inl ⟨rfl, rfl, rfl⟩, trivial, trivial⟩ ?_
  refine G.seqR tfine rfl trivial ?_
  refine G.seqR tfine rfl trivial ?_
  refine G.seq ?_
  refine G.seqR tfine rfl trivial ?_
  refine G.block (G.loop (fun k : Nat => St.of [(0, .v (.c (.inp 1000 A l.length c))), (1, .v (.c (.k (I s)))), (5, .v (.c (.k (I (sumW l s k))))), (6, .v (.c (.k (I k))))] [(1000, .ro 2 l.length (elR l))])
    (fun k => k ≤ l.length) (fun k => l.length - k) 0 (by omega) (St.le_of rfl ⟨⟨_, rfl, Blk.le_refl _⟩, trivial⟩ ⟨rfl, rfl, rfl, rfl, trivial⟩) ?_)
  rintro k hk
  refine G.seq ?_
  refine G.seqR tfine rfl trivial ?_
  refine G.cond (b := decide ((k : Int) < (l.length : Int))) rfl (fun h2 => ?_) (fun h2 => ?_)
  rotate_left
  · have h2 := of_decide_eq_false h2
    have : k = l.length := by omega
    subst this
    refine G.exit ?_
    refine G.seqR tfine rfl trivial ?_
    exact G.ret (endK.ret rfl rfl)
  have h2 := of_decide_eq_true h2
  have hlt : k < l.length := by omega
  refine G.skip ?_
  refine G.seq ?_
  refine G.block ?_
  refine G.seqR tfine rfl ⟨by omega, trivial⟩ ?_
  refine G.cond (b := bitC s k) rfl (fun h3 => ?_) (fun h3 => ?_)
  · rw [bitC_eq s k hs (by omega)] at h3
    refine G.reg tfine rfl ⟨by omega, by omega, by omega, trivial⟩ ?_
    rw [Int.toNat_natCast]
    refine G.reg tfine rfl trivial ?_
    rw [IntWalk.i64_in ((k : Int) + 1) (by omega)]
    have e : sumW l s (k + 1) = IntKind.i64.wrap (sumW l s k + (l.getD k (0, 0)).2) := by rw [sumW, if_pos h3]
    exact ⟨k + 1, by omega, (by show l.length - (k + 1) < l.length - k; omega), St.le_of rfl ⟨⟨_, rfl, Blk.le_refl _⟩, trivial⟩ ⟨rfl, rfl, by rw [e]; rfl, by simp [up, I], trivial⟩⟩
  rw [bitC_eq s k hs (by omega)] at h3
  refine G.skip ?_
  refine G.reg tfine rfl trivial ?_
  rw [IntWalk.i64_in ((k : Int) + 1) (by omega)]
  have e : sumW l s (k + 1) = sumW l s k := by rw [sumW, if_neg (fne h3)]
  exact ⟨k + 1, by omega, (by show l.length - (k + 1) < l.length - k; omega), St.le_of rfl ⟨⟨_, rfl, Blk.le_refl _⟩, trivial⟩ ⟨rfl, rfl, by rw [e]; rfl, by simp [up, I], trivial⟩⟩
end Go.Proofs.Ytpoalimbjeehkaa
/- Chapter 38: the IDs of a set. -/
set_option linter.unusedVariables false
set_option linter.unusedSimpArgs false
set_option maxRecDepth 8000
set_option maxHeartbeats 1000000
namespace Go.Proofs.Ytpoalimbjeehkaa
open Go.Sx Go.RowKit
theorem apI : ApT Try.prog 24 3 1 8 (.int .i64 0) := ⟨Try.underlying24, info3, rfl, by decide⟩
def idsW (l : List Rc) (s : Nat) : Nat → List Int
  | 0 => []
  | k + 1 => if s.testBit k = true then idsW l s k ++ [(l.getD k (0, 0)).1] else idsW l s k
theorem idsW_le (l : List Rc) (s k : Nat) : (idsW l s k).length ≤ k := by
  induction k with
  | zero => exact Nat.le_refl _
  | succ k ih => rw [idsW]; split <;> first | omega | (simp; omega)
theorem elI_snoc (L : List Int) (x : Int) (j : Nat) (hj : j < L.length + 1) : elN (elI L) L.length [I x] j = elI (L ++ [x]) j := by
  by_cases e : j = L.length
  · subst e
    rw [elN_eq, elI]
    simp
  · rw [elN_lt (by omega), elI, elI]
    simp [List.getD_eq_getElem?_getD, List.getElem?_append_left (show j < L.length by omega)]
theorem refIds_any (A : Option Addr) (c : Nat) (l : List Rc) (s : Nat) (w : World) (hl : RdRow w A l.length 2 (elR l)) (hs : s < 16384) (hn : l.length ≤ 14) :
    Calls Try.prog 43 #[.slice A l.length c, I s] w fun e w' => Ans w w' [.c (.r (idsW l s l.length).length 1 (elI (idsW l s l.length)))] e ∧ Below w.heap.size w w' := by
  refine enterAns tfine _ Try.func43 rfl 28 Try.ntmps43 [.c (.inp 1000 A l.length c), .c (.k (I s))] [⟨1000, A, 2, l.length, elR l⟩] rfl rfl ⟨hl, trivial⟩ ⟨.inl ⟨rfl, rfl, rfl⟩, trivial, trivial⟩ ?_
  refine G.seqR tfine rfl trivial ?_
  refine G.seqC tfine rfl trivial ?_
  refine GO.emptySliceS tfine rfl rfl rfl rfl rfl rfl rfl fun A0 hA0 => ?_
  refine GO.fin tfine rfl trivial ?_
  refine G.newNil 26 1 (elI []) rfl ?_
  refine G.seq (G.seqR tfine rfl trivial ?_)
  refine G.block (G.loop (fun z : Nat × Nat => St.of [(0, .v (.c (.inp 1000 A l.length c))), (1, .v (.c (.k (I s)))), (5, .v (.c (accVA A0 26 1 (idsW l s z.1).length z.2))), (6, .v (.c (.k (I z.1))))] [(26, accB 3 1 (idsW l s z.1).length z.2 (elI (idsW l s z.1))), (1000, .ro 2 l.length (elR l))])
    (fun z => z.1 ≤ l.length ∧ (idsW l s z.1).length ≤ z.2) (fun z => l.length - z.1) (0, 0) ⟨Nat.zero_le _, Nat.le_refl _⟩ (St.le_of rfl ⟨⟨_, rfl, Blk.le_refl _⟩, ⟨_, rfl, Blk.le_refl _⟩, trivial⟩ ⟨rfl, rfl, rfl, rfl, trivial⟩) ?_)
  rintro ⟨k, cp⟩ ⟨hk, hcp⟩
  dsimp only at hk hcp ⊢
  refine G.seq (G.seqR tfine rfl trivial ?_)
  refine G.cond (b := decide ((k : Int) < (l.length : Int))) rfl (fun h2 => ?_) (fun h2 => ?_)
  rotate_left
  · have h2 := of_decide_eq_false h2
    have : k = l.length := by omega
    subst this
    refine G.exit ?_
    generalize idsW l s l.length = L at *
    rcases L with _ | ⟨x, L⟩
    · refine G.seqR tfine rfl trivial ?_
      exact G.ret (endAns.ret ⟨⟨_, rfl, rfl, rfl, hA0⟩, trivial⟩)
    · have hcp : L.length + 1 ≤ cp := hcp
      refine G.seqR tfine rfl trivial ?_
      exact G.ret (endAns.ret ⟨⟨_, rfl, hcp, rfl, rfl, rfl, (by simp only [List.length_cons]; omega), fun i hi => by rw [Nat.zero_add]⟩, trivial⟩)
  have h2 := of_decide_eq_true h2
  have hlt : k < l.length := by omega
  have hLk := idsW_le l s k
  refine G.skip ?_
  refine G.seq (G.block ?_)
  refine G.seqR tfine rfl ⟨by omega, trivial⟩ ?_
  refine G.cond (b := bitC s k) rfl (fun h3 => ?_) (fun h3 => ?_)
  · rw [bitC_eq s k hs (by omega)] at h3
    have e : idsW l s (k + 1) = idsW l s k ++ [(l.getD k (0, 0)).1] := by rw [idsW, if_pos h3]
    refine G.region_lit ?_
    refine GO.moveAny tfine rfl (.inl rfl) rfl rfl rfl ?_
    refine GO.more tfine rfl ⟨by omega, by omega, by omega, trivial⟩ ?_
    rw [Int.toNat_natCast]
    refine GO.appendAccAB (n := (idsW l s k).length) (c := cp) (el := elI (idsW l s k)) [I (l.getD k (0, 0)).1] [(0, .v (.c (.inp 1000 A l.length c))), (1, .v (.c (.k (I s)))), (6, .v (.c (.k (I k))))] [(1000, .ro 2 l.length (elR l))] apI rfl rfl rfl rfl rfl rfl rfl rfl rfl rfl (fun u hu => by simp at hu; subst hu; rfl)
      (St.le_of rfl ⟨⟨_, rfl, Blk.le_refl _⟩, trivial⟩ ⟨rfl, rfl, rfl, trivial⟩) (subM.fr ⟨rfl, nx rfl, trivial⟩) (fun k hk => rfl) (by unfold maxLen; omega) (by omega) fun c' hc' => ?_
    refine GO.fin tfine rfl trivial ?_
    refine G.reg tfine rfl trivial ?_
    rw [IntWalk.i64_in ((k : Int) + 1) (by omega)]
    refine ⟨(k + 1, c'), ⟨by simp only; omega, by simp only [e, List.length_append, List.length_cons, List.length_nil]; exact hc'⟩, (by show l.length - (k + 1) < l.length - k; omega), ?_⟩
    simp only [e, List.length_append, List.length_cons, List.length_nil]
    exact St.le_of rfl ⟨⟨_, rfl, rfl, rfl, Nat.le_refl _, fun j hj => (elI_snoc _ _ j hj).symm, Nat.le_refl _⟩, ⟨_, rfl, Blk.le_refl _⟩, trivial⟩ ⟨rfl, rfl, rfl, by simp [up, I], trivial⟩
  rw [bitC_eq s k hs (by omega)] at h3
  have e : idsW l s (k + 1) = idsW l s k := by rw [idsW, if_neg (fne h3)]
  refine G.skip ?_
  refine G.reg tfine rfl trivial ?_
  rw [IntWalk.i64_in ((k : Int) + 1) (by omega)]
  refine ⟨(k + 1, cp), ⟨by simp only; omega, by simp only [e]; exact hcp⟩, (by show l.length - (k + 1) < l.length - k; omega), ?_⟩
  simp only [e]
  exact St.le_of (by generalize idsW l s k = q; cases q <;> rfl) ⟨⟨_, rfl, Blk.le_refl _⟩, ⟨_, rfl, Blk.le_refl _⟩, trivial⟩ ⟨rfl, rfl, rfl, by simp [up, I], trivial⟩
end Go.Proofs.Ytpoalimbjeehkaa
/- Chapter 38: the IDs of a set, the code's side. -/
set_option linter.unusedVariables false
set_option linter.unusedSimpArgs false
set_option maxRecDepth 8000
set_option maxHeartbeats 1000000
namespace Go.Proofs.Ytpoalimbjeehkaa
open Go.Sx Go.RowKit
theorem ids_any (A : Option Addr) (c : Nat) (l : List Rc) (s : Nat) (w : World) (hl : RdRow w A l.length 2 (elR l)) (hs : s < 16384) (hn : l.length ≤ 14) :
    Calls Try.prog 38 #[.slice A l.length c, I s] w fun e w' => Ans w w' [.c (.r (idsW l s l.length).length 1 (elI (idsW l s l.length)))] e ∧ Below w.heap.size w w' := by
  refine enterAns tfine _ Try.func38 rfl 27 Try.ntmps38 [.c (.inp 1000 A l.length c), .c (.k (I s))] [⟨1000, A, 2, l.length, elR l⟩] rfl rfl ⟨hl, trivial⟩ ⟨.inl ⟨rfl, rfl, rfl⟩, trivial, trivial⟩ ?_
  refine G.seqR tfine rfl trivial ?_
  refine G.seqR tfine rfl trivial ?_
  refine G.newNil 24 1 (elI []) rfl ?_
  refine G.seq (G.seqR tfine rfl trivial ?_)
  refine G.block (G.loop (fun z : Nat × Nat => St.of [(0, .v (.c (.inp 1000 A l.length c))), (1, .v (.c (.k (I s)))), (5, .v (.c (accV 24 1 (idsW l s z.1).length z.2))), (8, .v (.c (.inp 1000 A l.length c))), (9, .v (.c (.k (I l.length)))), (10, .v (.c (.k (I z.1))))] [(24, accB 3 1 (idsW l s z.1).length z.2 (elI (idsW l s z.1))), (1000, .ro 2 l.length (elR l))])
    (fun z => z.1 ≤ l.length ∧ (idsW l s z.1).length ≤ z.2) (fun z => l.length - z.1) (0, 0) ⟨Nat.zero_le _, Nat.le_refl _⟩ (St.le_of rfl ⟨⟨_, rfl, Blk.le_refl _⟩, ⟨_, rfl, Blk.le_refl _⟩, trivial⟩ ⟨rfl, rfl, rfl, rfl, rfl, rfl, trivial⟩) ?_)
  rintro ⟨k, cp⟩ ⟨hk, hcp⟩
  dsimp only at hk hcp ⊢
  refine G.seqR tfine rfl trivial ?_
  refine G.seq (G.cond (b := decide ((k : Int) < (l.length : Int))) rfl (fun h2 => ?_) (fun h2 => ?_))
  rotate_left
  · have h2 := of_decide_eq_false h2
    have : k = l.length := by omega
    subst this
    refine G.exit ?_
    generalize idsW l s l.length = L at *
    rcases L with _ | ⟨x, L⟩
    · refine G.seqR tfine rfl trivial ?_
      exact G.ret (endAns.ret ⟨⟨_, rfl, rfl, rfl, fun a h => by cases h⟩, trivial⟩)
    · have hcp : L.length + 1 ≤ cp := hcp
      refine G.seqR tfine rfl trivial ?_
      exact G.ret (endAns.ret ⟨⟨_, rfl, hcp, rfl, rfl, rfl, (by simp only [List.length_cons]; omega), fun i hi => by rw [Nat.zero_add]⟩, trivial⟩)
  have h2 := of_decide_eq_true h2
  have hlt : k < l.length := by omega
  have hLk := idsW_le l s k
  refine G.skip ?_
  refine G.seq (G.block ?_)
  refine G.seqR tfine rfl ⟨by simpa using hlt, by omega, by omega, trivial⟩ ?_
  rw [Int.toNat_natCast]
  obtain ⟨x, hx⟩ : ∃ x, x = (l.getD k (0, 0)).1 := ⟨_, rfl⟩
  obtain ⟨y, hy⟩ : ∃ y, y = (l.getD k (0, 0)).2 := ⟨_, rfl⟩
  rw [← hx, ← hy]
  refine G.seqR tfine rfl ⟨by omega, trivial⟩ ?_
  refine G.cond (b := bitC s k) rfl (fun h3 => ?_) (fun h3 => ?_)
  · rw [bitC_eq s k hs (by omega)] at h3
    have e : idsW l s (k + 1) = idsW l s k ++ [x] := by rw [idsW, if_pos h3, hx]
    refine G.region_lit ?_
    refine GO.moveAny tfine rfl (.inl rfl) rfl rfl rfl ?_
    refine GO.more tfine rfl trivial ?_
    refine GO.appendAccB (n := (idsW l s k).length) (c := cp) (el := elI (idsW l s k)) [I x] [(0, .v (.c (.inp 1000 A l.length c))), (1, .v (.c (.k (I s)))), (8, .v (.c (.inp 1000 A l.length c))), (9, .v (.c (.k (I l.length)))), (10, .v (.c (.k (I k))))] [(1000, .ro 2 l.length (elR l))] apI rfl rfl rfl rfl rfl rfl rfl rfl rfl rfl (fun u hu => by simp at hu; subst hu; rfl)
      (St.le_of rfl ⟨⟨_, rfl, Blk.le_refl _⟩, trivial⟩ ⟨rfl, rfl, rfl, rfl, rfl, trivial⟩) (subM.fr ⟨rfl, nx rfl, trivial⟩) (fun k hk => rfl) (by unfold maxLen; omega) (by omega) fun c' hc' => ?_
    refine GO.fin tfine rfl trivial ?_
    refine G.reg tfine rfl trivial ?_
    rw [IntWalk.i64_in ((k : Int) + 1) (by omega)]
    refine ⟨(k + 1, c'), ⟨by simp only; omega, by simp only [e, List.length_append, List.length_cons, List.length_nil]; exact hc'⟩, (by show l.length - (k + 1) < l.length - k; omega), ?_⟩
    simp only [e, List.length_append, List.length_cons, List.length_nil]
    exact St.le_of rfl ⟨⟨_, rfl, rfl, rfl, Nat.le_refl _, fun j hj => (elI_snoc _ _ j hj).symm, Nat.le_refl _⟩, ⟨_, rfl, Blk.le_refl _⟩, trivial⟩ ⟨rfl, rfl, rfl, rfl, rfl, by simp [up, I], trivial⟩
  rw [bitC_eq s k hs (by omega)] at h3
  have e : idsW l s (k + 1) = idsW l s k := by rw [idsW, if_neg (fne h3)]
  refine G.skip ?_
  refine G.reg tfine rfl trivial ?_
  rw [IntWalk.i64_in ((k : Int) + 1) (by omega)]
  refine ⟨(k + 1, cp), ⟨by simp only; omega, by simp only [e]; exact hcp⟩, (by show l.length - (k + 1) < l.length - k; omega), ?_⟩
  simp only [e]
  exact St.le_of (by generalize idsW l s k = q; cases q <;> rfl) ⟨⟨_, rfl, Blk.le_refl _⟩, ⟨_, rfl, Blk.le_refl _⟩, trivial⟩ ⟨rfl, rfl, rfl, rfl, rfl, by simp [up, I], trivial⟩
end Go.Proofs.Ytpoalimbjeehkaa
/- Chapter 38: the sums of all sets. -/
set_option linter.unusedVariables false
set_option linter.unusedSimpArgs false
set_option maxRecDepth 8000
set_option maxHeartbeats 1000000
namespace Go.Proofs.Ytpoalimbjeehkaa
open Go.Sx Go.RowKit
theorem sumW_low (l : List Rc) (i j k : Nat) (h : k ≤ i) : sumW l (2 ^ i + j) k = sumW l j k := by
  induction k with
  | zero => rfl
  | succ k ih => rw [sumW, sumW, ih (by omega), Nat.testBit_two_pow_add_gt (by omega)]
theorem sumW_off (l : List Rc) (i j : Nat) (h : j < 2 ^ i) : sumW l j (i + 1) = sumW l j i := by
  rw [sumW, Nat.testBit_lt_two_pow h, if_neg (by decide)]
theorem sumW_on (l : List Rc) (i j : Nat) (h : j < 2 ^ i) : sumW l (2 ^ i + j) (i + 1) = IntKind.i64.wrap (sumW l j i + (l.getD i (0, 0)).2) := by
  rw [sumW, Nat.testBit_two_pow_add_eq, Nat.testBit_lt_two_pow h, if_pos (by decide), sumW_low l i j i (Nat.le_refl _)]
def elS (l : List Rc) (i j q : Nat) : List Value := [I (if q < 2 ^ i + j then sumW l q (i + 1) else 0)]
def sumsV (l : List Rc) (q : Nat) : Value := I (if q < 2 ^ l.length then sumW l q l.length else 0)
theorem bigT57 : BigT Try.prog TT 57 16384 := ⟨⟨_, _, rfl, rfl, rfl⟩⟩
theorem sums_any (A : Option Addr) (c : Nat) (l : List Rc) (w : World) (hl : RdRow w A l.length 2 (elR l)) (hn : l.length ≤ 14) :
    Calls Try.prog 35 #[.slice A l.length c] w fun e w' => e = .returned (bigA 16384 (sumsV l)) ∧ Below w.heap.size w w' := by
  refine enterBig tfine 57 16384 (sumsV l) bigT57 Try.func35 rfl 33 Try.ntmps35 [.c (.inp 1000 A l.length c)] [⟨1000, A, 2, l.length, elR l⟩] rfl rfl ⟨hl, trivial⟩ ⟨.inl ⟨rfl, rfl, rfl⟩, trivial⟩ ?_
  refine G.seqR tfine rfl trivial ?_
  refine G.seqR tfine rfl trivial ?_
  refine G.seq ?_
  refine G.seqR tfine rfl trivial ?_
  refine G.block (G.loop (fun i : Nat => St.of [(2, .v (.c (.ptr 2 0 1 0))), (3, .v (.c (.ptr 3 0 1 0))), (7, .v (.c (.inp 1000 A l.length c))), (8, .v (.c (.k (I l.length)))), (9, .v (.c (.k (I i))))] [(2, .arr 57 1 16384 (fun _ => [I 0]) 0), (3, .arr 57 1 16384 (fun q => [I (if q < 2 ^ i then sumW l q i else 0)]) 0), (1000, .ro 2 l.length (elR l))])
    (fun k => k ≤ l.length) (fun k => l.length - k) 0 (by omega) (St.le_of rfl ⟨⟨_, rfl, Blk.le_refl _⟩, ⟨_, rfl, rfl, rfl, Nat.le_refl _, fun q hq => ?_, Nat.le_refl _⟩, ⟨_, rfl, Blk.le_refl _⟩, trivial⟩ ⟨rfl, rfl, rfl, rfl, rfl, trivial⟩) ?_)
  · show [I (if q < 2 ^ 0 then sumW l q 0 else 0)] = _
    simp only [sumW, ite_self]
    first | rfl | simp
  rintro i hi
  refine G.seqR tfine rfl trivial ?_
  refine G.seq (G.cond (b := decide ((i : Int) < (l.length : Int))) rfl (fun h2 => ?_) (fun h2 => ?_))
  rotate_left
  · have h2 := of_decide_eq_false h2
    have : i = l.length := by omega
    subst this
    refine G.exit ?_
    refine G.seq ?_
    refine G.region_lit ?_
    refine GO.loadBig tfine (sumsV l) bigT57 rfl rfl rfl rfl rfl (fun q hq => rfl) ?_
    refine GO.storeBig tfine (sumsV l) bigT57 rfl rfl rfl rfl rfl rfl (fun q hq => rfl) ?_
    refine GO.nil ?_
    refine G.ret ⟨.inl rfl, _, _, _, _, rfl, rfl, rfl, fun q hq => rfl⟩
  have h2 := of_decide_eq_true h2
  have hlt : i < l.length := by omega
  have hp := two_pow13 (show i ≤ 14 by omega)
  refine G.skip ?_
  refine G.seq (G.block ?_)
  refine G.seqR tfine rfl ⟨by simpa using hlt, by omega, by omega, trivial⟩ ?_
  rw [Int.toNat_natCast]
  obtain ⟨x, hx⟩ : ∃ x, x = (l.getD i (0, 0)).1 := ⟨_, rfl⟩
  obtain ⟨y, hy⟩ : ∃ y, y = (l.getD i (0, 0)).2 := ⟨_, rfl⟩
  rw [← hx, ← hy]
  refine G.seqR tfine rfl ⟨by omega, trivial⟩ ?_
  rw [shl1 i (by omega)]
  refine G.block (G.loop (fun j : Nat => St.of [(2, .v (.c (.ptr 2 0 1 0))), (3, .v (.c (.ptr 3 0 1 0))), (4, .v (.c (.k (I i)))), (5, .v (.c (.ptr 5 0 0 0))), (7, .v (.c (.inp 1000 A l.length c))), (8, .v (.c (.k (I l.length)))), (9, .v (.c (.k (I i)))), (15, .v (.c (.k (I (2 ^ i : Nat))))), (16, .v (.c (.k (I j))))] [(2, .arr 57 1 16384 (fun _ => [I 0]) 0), (3, .arr 57 1 16384 (elS l i j) 0), (5, .var 32 [.k (I x), .k (I y)]), (1000, .ro 2 l.length (elR l))])
    (fun j => j ≤ 2 ^ i) (fun j => 2 ^ i - j) 0 (Nat.zero_le _) (St.le_of rfl ⟨⟨_, rfl, Blk.le_refl _⟩, ⟨_, rfl, rfl, rfl, Nat.le_refl _, fun q hq => ?_, Nat.le_refl _⟩, ⟨_, rfl, Blk.le_refl _⟩, ⟨_, rfl, Blk.le_refl _⟩, trivial⟩ ⟨rfl, rfl, rfl, rfl, rfl, rfl, rfl, rfl, rfl, trivial⟩) ?_)
  · show [I (if q < 2 ^ i + 0 then sumW l q (i + 1) else 0)] = [I (if q < 2 ^ i then sumW l q i else 0)]
    rw [Nat.add_zero]
    by_cases h : q < 2 ^ i
    · rw [if_pos h, if_pos h, sumW_off l i q h]
    · rw [if_neg h, if_neg h]
  rintro j hj
  refine G.seqR tfine rfl trivial ?_
  refine G.seq (G.cond (b := decide ((j : Int) < ((2 ^ i : Nat) : Int))) rfl (fun h3 => ?_) (fun h3 => ?_))
  rotate_left
  · have h3 := of_decide_eq_false h3
    have hje : j = 2 ^ i := by generalize 2 ^ i = p at *; omega
    refine G.exit ?_
    refine G.reg tfine rfl trivial ?_
    rw [IntWalk.i64_in ((i : Int) + 1) (by omega)]
    refine ⟨i + 1, by omega, (by show l.length - (i + 1) < l.length - i; omega), St.le_of rfl ⟨⟨_, rfl, Blk.le_refl _⟩, ⟨_, rfl, rfl, rfl, Nat.le_refl _, fun q hq => ?_, Nat.le_refl _⟩, ⟨_, rfl, Blk.le_refl _⟩, trivial⟩ ⟨rfl, rfl, rfl, rfl, by simp [up, I], trivial⟩⟩
    show [I (if q < 2 ^ (i + 1) then sumW l q (i + 1) else 0)] = [I (if q < 2 ^ i + j then sumW l q (i + 1) else 0)]
    rw [hje, show 2 ^ (i + 1) = 2 ^ i + 2 ^ i by rw [Nat.pow_succ]; omega]
  have h3 := of_decide_eq_true h3
  have hjl : j < 2 ^ i := by generalize 2 ^ i = p at *; omega
  have hp1 : 2 ^ i + 2 ^ i ≤ 16384 := by
    have := two_pow13 (show i + 1 ≤ 14 by omega)
    rw [Nat.pow_succ] at this
    omega
  refine G.skip ?_
  refine G.seq (G.block ?_)
  refine G.seqR tfine rfl trivial ?_
  refine G.regD tfine hmix [0, 1, 0, 7, 0, 16, 48, 0, 128, 496, 1023, 2047] [(11, 3)] rfl rfl rfl rfl ?_ ?_
  · rw [shl1 i (by omega), orBit i j (by omega) hjl]
    simp only [Int.toNat_natCast]
    generalize 2 ^ i = p at *
    exact ⟨by omega, by omega, by omega, by omega, by omega, by omega, by omega, trivial⟩
  rw [shl1 i (by omega), orBit i j (by omega) hjl]
  refine G.reg tfine rfl trivial ?_
  rw [IntWalk.i64_in ((j : Int) + 1) (by generalize 2 ^ i = p at *; omega)]
  refine ⟨j + 1, hjl, (by show 2 ^ i - (j + 1) < 2 ^ i - j; omega), St.le_of rfl ⟨⟨_, rfl, Blk.le_refl _⟩, ⟨_, rfl, rfl, rfl, Nat.le_refl _, fun q hq => ?_, Nat.le_refl _⟩, ⟨_, rfl, Blk.le_refl _⟩, ⟨_, rfl, Blk.le_refl _⟩, trivial⟩ ⟨rfl, rfl, rfl, rfl, rfl, rfl, rfl, rfl, by simp [up, I], trivial⟩⟩
  show elS l i (j + 1) q = (bif q.beq ((2 ^ i + j : Nat) : Int).toNat then [I (IntKind.i64.wrap ((if (j : Int).toNat < 2 ^ i + j then sumW l (j : Int).toNat (i + 1) else 0) + y))] else elS l i j q)
  rw [Int.toNat_natCast, Int.toNat_natCast, if_pos (show j < 2 ^ i + j by omega), sumW_off l i j hjl]
  by_cases h : q = 2 ^ i + j
  · subst h
    rw [show (2 ^ i + j).beq (2 ^ i + j) = true from Nat.beq_refl _, cond_true, elS, if_pos (by omega), sumW_on l i j hjl, hy]
  · rw [show q.beq (2 ^ i + j) = false from Bool.eq_false_iff.mpr fun hc => h (Nat.eq_of_beq_eq_true hc), cond_false, elS, elS]
    by_cases h4 : q < 2 ^ i + j
    · rw [if_pos h4, if_pos (by omega)]
    · rw [if_neg h4, if_neg (by omega)]
end Go.Proofs.Ytpoalimbjeehkaa
/- Chapter 38: how many bits a set has. -/
set_option linter.unusedVariables false
set_option linter.unusedSimpArgs false
set_option maxRecDepth 8000
set_option maxHeartbeats 1000000
namespace Go.Proofs.Ytpoalimbjeehkaa
open Go.Sx Go.RowKit
def oc1 (x : Int) : Int := IntKind.u64.wrap (bitsOp .and .u64 (x.fdiv (2 ^ (min (1 : Int).toNat IntKind.u64.bits))) 6148914691236517205 + bitsOp .and .u64 x 6148914691236517205)
def oc2 (x : Int) : Int := IntKind.u64.wrap (bitsOp .and .u64 (x.fdiv (2 ^ (min (2 : Int).toNat IntKind.u64.bits))) 3689348814741910323 + bitsOp .and .u64 x 3689348814741910323)
def oc3 (x : Int) : Int := bitsOp .and .u64 (IntKind.u64.wrap (x.fdiv (2 ^ (min (4 : Int).toNat IntKind.u64.bits)) + x)) 1085102592571150095
def oc4 (k : Int) (x : Int) : Int := IntKind.u64.wrap (x + x.fdiv (2 ^ (min k.toNat IntKind.u64.bits)))
def ocF (x : Int) : Int := bitsOp .and .i64 (IntKind.i64.wrap (oc4 32 (oc4 16 (oc4 8 (oc3 (oc2 (oc1 x))))))) 127
theorem onesCount64_any (x : Int) (w : World) : Calls Try.prog 58 #[.int .u64 x] w fun e w' => e = .returned (I (ocF x)) ∧ Below w.heap.size w w' := by
  refine enterPlain tfine Try.func58 rfl 35 Try.ntmps58 [.c (.k (.int .u64 x))] [] rfl rfl trivial ⟨trivial, trivial⟩ ?_
  refine G.seqR tfine rfl trivial ?_
  refine G.seqR tfine rfl ⟨by decide, trivial⟩ ?_
  refine G.seqR tfine rfl ⟨by decide, trivial⟩ ?_
  refine G.seqR tfine rfl ⟨by decide, trivial⟩ ?_
  refine G.seqR tfine rfl ⟨by decide, trivial⟩ ?_
  refine G.seqR tfine rfl ⟨by decide, trivial⟩ ?_
  refine G.seqR tfine rfl ⟨by decide, trivial⟩ ?_
  refine G.seqR tfine rfl trivial ?_
  exact G.ret (endK.ret rfl rfl)
theorem onesCount_any (x : Int) (w : World) : Calls Try.prog 36 #[.int .u64 x] w fun e w' => e = .returned (I (ocF x)) ∧ Below w.heap.size w w' := by
  refine enterPlain tfine Try.func36 rfl 8 Try.ntmps36 [.c (.k (.int .u64 x))] [] rfl rfl trivial ⟨trivial, trivial⟩ ?_
  refine G.seqR tfine rfl trivial ?_
  refine G.seq (G.cond (b := false) rfl (fun h => by cases h) (fun h => ?_))
  refine G.skip ?_
  refine G.seqC tfine rfl trivial ?_
  refine GO.callPlain (v := I (ocF x)) rfl rfl rfl rfl (fun args w => Try.call58 args w) (fun ρ w hs hok => onesCount64_any x w) ?_
  refine GO.fin tfine rfl trivial ?_
  exact G.ret (endK.ret rfl rfl)
end Go.Proofs.Ytpoalimbjeehkaa
/- Chapter 38: the number of bits of a set, and of the IDs of a set. -/
set_option maxRecDepth 8000
set_option maxHeartbeats 1000000
namespace Go.Proofs.Ytpoalimbjeehkaa
open Go.Sx Go.RowKit
def cntB (s : Nat) : Nat → Nat
  | 0 => 0
  | k + 1 => cond (s.testBit k) (cntB s k + 1) (cntB s k)
theorem ocF_all : ∀ a : Fin 256, ocF ((a.val : Nat) : Int) = ((cntB a.val 8 : Nat) : Int) := by
  decide +kernel
theorem cntB_stop (s k : Nat) (h : s < 2 ^ k) (j : Nat) : cntB s (k + j) = cntB s k := by
  induction j with
  | zero => rfl
  | succ j ih =>
    rw [← Nat.add_assoc, cntB, ih, Nat.testBit_lt_two_pow (Nat.lt_of_lt_of_le h (Nat.pow_le_pow_right (by decide) (Nat.le_add_right k j)))]
    rfl
theorem idsW_cnt (l : List Rc) (s k : Nat) : (idsW l s k).length = cntB s k := by
  induction k with
  | zero => rfl
  | succ k ih =>
    rw [idsW, cntB]
    cases s.testBit k
    · exact ih
    · simp [ih]
theorem ocF_ids (l : List Rc) (s : Nat) (hn : l.length ≤ 8) (h : s < 2 ^ l.length) : ocF (s : Int) = (((idsW l s l.length).length : Nat) : Int) := by
  have h8 : s < 256 := Nat.lt_of_lt_of_le h (Nat.pow_le_pow_right (n := 2) (by decide) hn)
  have := ocF_all ⟨s, h8⟩
  have e := cntB_stop s l.length h (8 - l.length)
  rw [show l.length + (8 - l.length) = 8 by omega] at e
  rw [idsW_cnt, ← e]
  exact this
theorem ask_len {l : List Rc} {g t : Int} (h : askR l g t = 0) : l.length ≤ 14 := by
  by_cases hl : decide ((l.length : Int) > 14) = true
  · have e : rightR l = false := by rw [rightR, chkR, if_pos hl]; rfl
    rw [askR, e] at h
    cases h
  · rw [decide_eq_true_eq] at hl
    omega
end Go.Proofs.Ytpoalimbjeehkaa
/- Chapter 38: Count, the code's side and the reference's. -/
set_option linter.unusedVariables false
set_option linter.unusedSimpArgs false
set_option maxRecDepth 8000
set_option maxHeartbeats 1000000
namespace Go.Proofs.Ytpoalimbjeehkaa
open Go.Sx Go.RowKit
def difW (l : List Rc) (g : Int) (s : Nat) : Int := absR (IntKind.i64.wrap (sumW l s l.length - g))
def hitW (l : List Rc) (g t : Int) (s : Nat) : Bool := decide (difW l g s ≤ t)
def cntH (l : List Rc) (g t : Int) : Nat → Nat
  | 0 => 0
  | k + 1 => cond (hitW l g t k) (cntH l g t k + 1) (cntH l g t k)
theorem cntH_le (l : List Rc) (g t : Int) (k : Nat) : cntH l g t k ≤ k := by
  induction k with
  | zero => exact Nat.le_refl _
  | succ k ih => rw [cntH]; cases hitW l g t k <;> simp only [cond_true, cond_false] <;> omega
def cntR (l : List Rc) (g t : Int) : Int × Int := if askR l g t != 0 then (0, askR l g t) else ((cntH l g t (2 ^ l.length) : Nat), 0)
theorem count_any (A : Option Addr) (c : Nat) (l : List Rc) (g tol : Int) (w : World) (hl : RdRow w A l.length 2 (elR l)) :
    Calls Try.prog 21 #[.slice A l.length c, I g, I tol] w fun e w' => e = .returned (.tuple #[I (cntR l g tol).1, I (cntR l g tol).2]) ∧ Below w.heap.size w w' := by
  refine enterPlain tfine Try.func21 rfl 39 Try.ntmps21 [.c (.inp 1000 A l.length c), .c (.k (I g)), .c (.k (I tol))] [⟨1000, A, 2, l.length, elR l⟩] rfl rfl ⟨hl, trivial⟩ ⟨.inl ⟨rfl, rfl, rfl⟩, trivial, trivial, trivial⟩ ?_
  refine G.seqR tfine rfl trivial ?_
  refine G.seq ?_
  refine G.seqC tfine rfl trivial ?_
  refine GO.callPlain (v := I (askR l g tol)) rfl rfl rfl rfl (fun args w => Try.call34 args w) (fun ρ w hs hok => asked_any A c l g tol w (hs.row (cap := c) rfl (hok _ List.mem_cons_self))) ?_
  refine GO.fin tfine rfl trivial ?_
  refine G.seqR tfine rfl trivial ?_
  refine G.cond (b := askR l g tol != 0) rfl (fun h => ?_) (fun h => ?_)
  · refine G.seqR tfine rfl trivial ?_
    refine G.ret (endK.ret rfl ?_)
    rw [cntR, if_pos h]
  refine G.skip ?_
  have ha : askR l g tol = 0 := by simpa using h
  have hn := ask_len ha
  have hp := two_pow13 hn
  refine G.seqC tfine rfl trivial ?_
  refine GO.callBig 16384 (sumsV l) rfl rfl rfl rfl (fun args w => Try.call35 args w) (fun ρ w hs hok => sums_any A c l w (hs.row (cap := c) rfl (hok _ List.mem_cons_self)) hn) ?_
  refine GO.step tfine rfl trivial ?_
  refine GO.storeBig tfine (sumsV l) bigT57 rfl rfl rfl rfl rfl rfl (fun q hq => rfl) ?_
  refine GO.fin tfine rfl trivial ?_
  refine G.seq ?_
  refine G.seqR tfine rfl ⟨by omega, trivial⟩ ?_
  rw [shl1 _ hn]
  refine G.block (G.loop (fun k : Nat => St.of [(0, .v (.c (.inp 1000 A l.length c))), (1, .v (.c (.k (I g)))), (2, .v (.c (.k (I tol)))), (9, .v (.c (.ptr 9 0 1 0))), (10, .v (.c (.k (I (cntH l g tol k))))), (23, .v (.c (.k (I (2 ^ l.length : Nat))))), (24, .v (.c (.k (I k))))] [(9, .arr 57 1 16384 (fun q => [sumsV l q]) 0), (1000, .ro 2 l.length (elR l))])
    (fun k => k ≤ 2 ^ l.length) (fun k => 2 ^ l.length - k) 0 (Nat.zero_le _) (St.le_of rfl ⟨⟨_, rfl, Blk.le_refl _⟩, ⟨_, rfl, Blk.le_refl _⟩, trivial⟩ ⟨rfl, rfl, rfl, rfl, rfl, rfl, rfl, trivial⟩) ?_)
  rintro k hk
  refine G.seqR tfine rfl trivial ?_
  refine G.seq ?_
  refine G.cond (b := decide ((k : Int) < ((2 ^ l.length : Nat) : Int))) rfl (fun h2 => ?_) (fun h2 => ?_)
  rotate_left
  · have h2 := of_decide_eq_false h2
    have e : k = 2 ^ l.length := by generalize 2 ^ l.length = p at *; omega
    refine G.exit ?_
    refine G.seqR tfine rfl trivial ?_
    refine G.ret (endK.ret rfl ?_)
    rw [cntR, if_neg (by rw [h]; decide), ← e]
  have h2 := of_decide_eq_true h2
  have hlt : k < 2 ^ l.length := by generalize 2 ^ l.length = p at *; omega
  have hc := cntH_le l g tol k
  refine G.skip ?_
  refine G.seq ?_
  refine G.block ?_
  refine G.seqR tfine rfl trivial ?_
  refine G.seqC tfine rfl ⟨by generalize 2 ^ l.length = p at *; omega, by generalize 2 ^ l.length = p at *; omega, by generalize 2 ^ l.length = p at *; omega, trivial⟩ ?_
  refine GO.callPlain (v := I (difW l g k)) rfl rfl rfl rfl (fun args w => Try.call37 args w) (fun ρ w hs hok => ?_) ?_
  · have := size_any (IntKind.i64.wrap (sumW l k l.length - g)) w
    rw [Int.toNat_natCast, if_pos hlt]
    exact this
  refine GO.fin tfine rfl trivial ?_
  refine G.cond (b := hitW l g tol k) rfl (fun h3 => ?_) (fun h3 => ?_)
  · refine G.reg tfine rfl trivial ?_
    refine G.reg tfine rfl trivial ?_
    have e : cntH l g tol (k + 1) = cntH l g tol k + 1 := by rw [cntH, h3]; rfl
    rw [IntWalk.i64_in ((k : Int) + 1) (by generalize 2 ^ l.length = p at *; omega), IntWalk.i64_in ((cntH l g tol k : Int) + 1) (by generalize 2 ^ l.length = p at *; omega)]
    exact ⟨k + 1, hlt, (by show 2 ^ l.length - (k + 1) < 2 ^ l.length - k; omega), St.le_of rfl ⟨⟨_, rfl, Blk.le_refl _⟩, ⟨_, rfl, Blk.le_refl _⟩, trivial⟩ ⟨rfl, rfl, rfl, rfl, by rw [e]; exact congrArg (fun z : Int => TV.v (AV.c (AC.k (I z)))) (by omega), rfl, by simp [up, I], trivial⟩⟩
  refine G.skip ?_
  refine G.reg tfine rfl trivial ?_
  have e : cntH l g tol (k + 1) = cntH l g tol k := by rw [cntH, h3]; rfl
  rw [IntWalk.i64_in ((k : Int) + 1) (by generalize 2 ^ l.length = p at *; omega)]
  exact ⟨k + 1, hlt, (by show 2 ^ l.length - (k + 1) < 2 ^ l.length - k; omega), St.le_of rfl ⟨⟨_, rfl, Blk.le_refl _⟩, ⟨_, rfl, Blk.le_refl _⟩, trivial⟩ ⟨rfl, rfl, rfl, rfl, by rw [e]; rfl, rfl, by simp [up, I], trivial⟩⟩
theorem refCount_any (A : Option Addr) (c : Nat) (l : List Rc) (g tol : Int) (w : World) (hl : RdRow w A l.length 2 (elR l)) :
    Calls Try.prog 22 #[.slice A l.length c, I g, I tol] w fun e w' => e = .returned (.tuple #[I (cntR l g tol).1, I (cntR l g tol).2]) ∧ Below w.heap.size w w' := by
  refine enterPlain tfine Try.func22 rfl 36 Try.ntmps22 [.c (.inp 1000 A l.length c), .c (.k (I g)), .c (.k (I tol))] [⟨1000, A, 2, l.length, elR l⟩] rfl rfl ⟨hl, trivial⟩ ⟨.inl ⟨rfl, rfl, rfl⟩, trivial, trivial, trivial⟩ ?_
  refine G.seqR tfine rfl trivial ?_
  refine G.seq ?_
  refine G.seqC tfine rfl trivial ?_
  refine GO.callPlain (v := I (askR l g tol)) rfl rfl rfl rfl (fun args w => Try.call40 args w) (fun ρ w hs hok => start_any A c l g tol w (hs.row (cap := c) rfl (hok _ List.mem_cons_self))) ?_
  refine GO.fin tfine rfl trivial ?_
  refine G.seqR tfine rfl trivial ?_
  refine G.cond (b := askR l g tol != 0) rfl (fun h => ?_) (fun h => ?_)
  · refine G.seqR tfine rfl trivial ?_
    refine G.ret (endK.ret rfl ?_)
    rw [cntR, if_pos h]
  refine G.skip ?_
  have ha : askR l g tol = 0 := by simpa using h
  have hn := ask_len ha
  have hp := two_pow13 hn
  refine G.seqR tfine rfl trivial ?_
  refine G.seq ?_
  refine G.seqR tfine rfl trivial ?_
  refine G.block (G.loop (fun k : Nat => St.of [(0, .v (.c (.inp 1000 A l.length c))), (1, .v (.c (.k (I g)))), (2, .v (.c (.k (I tol)))), (9, .v (.c (.k (I (cntH l g tol k))))), (10, .v (.c (.k (I k))))] [(1000, .ro 2 l.length (elR l))])
    (fun k => k ≤ 2 ^ l.length) (fun k => 2 ^ l.length - k) 0 (Nat.zero_le _) (St.le_of rfl ⟨⟨_, rfl, Blk.le_refl _⟩, trivial⟩ ⟨rfl, rfl, rfl, rfl, rfl, trivial⟩) ?_)
  rintro k hk
  refine G.seq ?_
  refine G.seqR tfine rfl ⟨by omega, trivial⟩ ?_
  rw [shl1 _ hn]
  refine G.cond (b := decide ((k : Int) < ((2 ^ l.length : Nat) : Int))) rfl (fun h2 => ?_) (fun h2 => ?_)
  rotate_left
  · have h2 := of_decide_eq_false h2
    have e : k = 2 ^ l.length := by generalize 2 ^ l.length = p at *; omega
    refine G.exit ?_
    refine G.seqR tfine rfl trivial ?_
    refine G.ret (endK.ret rfl ?_)
    rw [cntR, if_neg (by rw [h]; decide), ← e]
  have h2 := of_decide_eq_true h2
  have hlt : k < 2 ^ l.length := by generalize 2 ^ l.length = p at *; omega
  have hc := cntH_le l g tol k
  refine G.skip ?_
  refine G.seq ?_
  refine G.block ?_
  refine G.seqC tfine rfl trivial ?_
  refine GO.callPlain (v := I (sumW l k l.length)) rfl rfl rfl rfl (fun args w => Try.call42 args w) (fun ρ w hs hok => refSum_any A c l k w (hs.row (cap := c) rfl (hok _ List.mem_cons_self)) (by generalize 2 ^ l.length = p at *; omega) hn) ?_
  refine GO.more tfine rfl trivial ?_
  refine GO.callPlain (v := I (difW l g k)) rfl rfl rfl rfl (fun args w => Try.call41 args w) (fun ρ w hs hok => refAbs_any (IntKind.i64.wrap (sumW l k l.length - g)) w) ?_
  refine GO.fin tfine rfl trivial ?_
  refine G.cond (b := hitW l g tol k) rfl (fun h3 => ?_) (fun h3 => ?_)
  · refine G.reg tfine rfl trivial ?_
    refine G.reg tfine rfl trivial ?_
    have e : cntH l g tol (k + 1) = cntH l g tol k + 1 := by rw [cntH, h3]; rfl
    rw [IntWalk.i64_in ((k : Int) + 1) (by generalize 2 ^ l.length = p at *; omega), IntWalk.i64_in ((cntH l g tol k : Int) + 1) (by generalize 2 ^ l.length = p at *; omega)]
    exact ⟨k + 1, hlt, (by show 2 ^ l.length - (k + 1) < 2 ^ l.length - k; omega), St.le_of rfl ⟨⟨_, rfl, Blk.le_refl _⟩, trivial⟩ ⟨rfl, rfl, rfl, by rw [e]; exact congrArg (fun z : Int => TV.v (AV.c (AC.k (I z)))) (by omega), by simp [up, I], trivial⟩⟩
  refine G.skip ?_
  refine G.reg tfine rfl trivial ?_
  have e : cntH l g tol (k + 1) = cntH l g tol k := by rw [cntH, h3]; rfl
  rw [IntWalk.i64_in ((k : Int) + 1) (by generalize 2 ^ l.length = p at *; omega)]
  exact ⟨k + 1, hlt, (by show 2 ^ l.length - (k + 1) < 2 ^ l.length - k; omega), St.le_of rfl ⟨⟨_, rfl, Blk.le_refl _⟩, trivial⟩ ⟨rfl, rfl, rfl, by rw [e]; rfl, by simp [up, I], trivial⟩⟩
end Go.Proofs.Ytpoalimbjeehkaa
