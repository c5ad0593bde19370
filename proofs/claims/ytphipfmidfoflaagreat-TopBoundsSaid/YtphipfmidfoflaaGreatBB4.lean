/- Top: the wet space of lying casks. -/
import Derived.Test.YtphipfmidfoflaaGreatBB3
import Derived.Scope
/- The symbolic executor, part BC: a range over a function that gives constants, as a rule for states; the end of a function behind ranges. Generic over P. -/
set_option linter.unusedVariables false
set_option linter.unusedSimpArgs false
namespace Go.Sx
open Go.RowKit
section
variable {P : Program} {E : Env} {K : Exit → St → Prop} {T : Tab}
/-- A raw postcondition. -/
def QR (E : Env) (Q : Exit → Act → World → Prop) : Exit → St → Prop := fun e st => ∀ ρ a w, Sat E ρ st a w → Q e a w
/-- Code with a raw postcondition, from each frame and memory that the state describes. -/
def GR (P : Program) (E : Env) (Q : Exit → Act → World → Prop) (c : Code) (st : St) : Prop := ∀ ρ a w, Sat E ρ st a w → c.wpIn (fenR none) 6 P Q a w
theorem GR.of (h0 : E.rnd = none) {Q : Exit → Act → World → Prop} {c : Code} {st : St} (h : G P E (QR E Q) c st) : GR P E Q c st := fun ρ a w hs => by
  have h1 := h (fun hr => by rw [h0] at hr; cases hr) ρ a w hs
  rw [h0] at h1
  refine wpIn_mono h1 ?_
  rintro e a2 w2 ⟨ρ2, st2, hs2, hk⟩
  exact hk ρ2 a2 w2 hs2
theorem GR.seq (h0 : E.rnd = none) {Q : Exit → Act → World → Prop} {x y : Code} {st : St} (h : G P E (thenK (GR P E Q y) (QR E Q)) x st) : GR P E Q (.seq x y) st := fun ρ a w hs => by
  have h1 := h (fun hr => by rw [h0] at hr; cases hr) ρ a w hs
  rw [h0] at h1
  refine wpIn_seq (wpIn_mono h1 ?_)
  rintro e a2 w2 ⟨ρ2, st2, hs2, hk⟩
  cases e <;> first
    | exact hk ρ2 a2 w2 hs2
theorem GR.seqR (h0 : E.rnd = none) (hT : Tab.fine P T) {Q : Exit → Act → World → Prop} {id : Nat} {l : List Oper} {y : Code} {t t' : Nat → TV} {m m' : Mem} {obs : List Prop} (h : runOps T E.N l.toArray l t m [] = .mk t' m' [] obs) (ho : AllP obs) (k : GR P E Q y ⟨t', m'⟩) : GR P E Q (.seq (.region id l.toArray false) y) ⟨t, m⟩ :=
  GR.seq h0 (G.reg hT h ho k)
theorem GR.seqC (h0 : E.rnd = none) (hT : Tab.fine P T) {Q : Exit → Act → World → Prop} {id : Nat} {l : List Oper} {y : Code} {t t' : Nat → TV} {m m' : Mem} {rest' : List Oper} {obs : List Prop} (h : runOps T E.N l.toArray l t m [] = .mk t' m' rest' obs) (ho : AllP obs) (k : GO P E l.toArray (thenK (GR P E Q y) (QR E Q)) rest' ⟨t', m'⟩) : GR P E Q (.seq (.region id l.toArray false) y) ⟨t, m⟩ :=
  GR.seq h0 (G.regC hT h ho k)
/-- A group ahead of the rest. -/
theorem GR.seq2 (h0 : E.rnd = none) {Q : Exit → Act → World → Prop} {x y z : Code} {st : St} (h : G P E (thenK (GR P E (Exit.then (z.wpIn (fenR none) 6 P Q) Q) y) (QR E Q)) x st) : GR P E Q (.seq (.seq x y) z) st := fun ρ a w hs => by
  have h1 := h (fun hr => by rw [h0] at hr; cases hr) ρ a w hs
  rw [h0] at h1
  refine wpIn_seq (wpIn_seq (wpIn_mono h1 ?_))
  rintro e a2 w2 ⟨ρ2, st2, hs2, hk⟩
  cases e <;> first
    | exact hk ρ2 a2 w2 hs2
/-- A loop's box: its name, its type, what it holds behind i rounds. -/
structure LBox where
  x : Nat
  ty : TypeId
  v : Nat → List AC
/-- Contents that are values. -/
def kL (v : Nat → List Value) (i : Nat) : List AC := (v i).map .k
/-! ### Names in a round -/
def nmOf : List LBox → Nat → Nat → Option Nat
  | [], _, _ => none
  | b :: r, n, x => bif Nat.beq x b.x then some n else nmOf r (n + 1) x
def isKA : AC → Bool
  | .k _ => true
  | _ => false
def capR (xs : List LBox) : List Cap → Option (List Cap)
  | [] => some []
  | .val v :: r => match capR xs r with
    | some r' => some (.val v :: r')
    | none => none
  | .own x off :: r => match nmOf xs 1500 x with
    | some y => match capR xs r with
      | some r' => some (.own y off :: r')
      | none => none
    | none => none
def rnA (xs : List LBox) : AC → AC
  | .fn f caps => match capR xs caps with
    | some caps' => .fn f caps'
    | none => .fn f caps
  | a => a
def simA (xs : List LBox) : AC → Bool
  | .k _ => true
  | .fn _ caps => (capR xs caps).isSome
  | _ => false
def allSim (xs0 : List LBox) : List LBox → Prop
  | [] => True
  | b :: r => (∀ i, (b.v i).all (simA xs0) = true) ∧ allSim xs0 r
def rdT (xs : List LBox) : TV → TV
  | .v (.c (.k v)) => .v (.c (.k v))
  | .v (.c (.ptr x i sz off)) => match nmOf xs 1500 x with
    | some y => .v (.c (.ptr y i sz off))
    | none => .unk
  | .v (.c (.fn f caps)) => match capR xs caps with
    | some caps' => .v (.c (.fn f caps'))
    | none => .unk
  | .v (.agg l) => bif l.all isKA then .v (.agg l) else .unk
  | _ => .unk
def keepR : Option Blk → Option Blk
  | some (.say S R) => some (.say S R)
  | _ => none
def mR (m : Mem) (i : Nat) (o : Obj) (xs0 : List LBox) : List LBox → Nat → Mem
  | [], n => fun y => bif Nat.beq y n then some (.obj (· = o)) else keepR (m y)
  | b :: r, n => fun y => bif Nat.beq y n then some (.var b.ty ((b.v i).map (rnA xs0))) else mR m i o xs0 r (n + 1) y
def ρR (ρ : Val) (l : Nat) : List LBox → Nat → Val
  | [], n => fun y => bif Nat.beq y n then (l, 0) else ρ y
  | b :: r, n => fun y => bif Nat.beq y n then ρ b.x else ρR ρ l r (n + 1) y
theorem nmOf_at {xs : List LBox} : ∀ {n x y : Nat}, nmOf xs n x = some y → ∃ k b, xs[k]? = some b ∧ y = n + k ∧ b.x = x := by
  induction xs with
  | nil => intro n x y h; cases h
  | cons b r ih =>
    intro n x y h
    rw [nmOf] at h
    cases e : Nat.beq x b.x with
    | true =>
      rw [e] at h
      injection h with h
      exact ⟨0, b, rfl, by omega, (Nat.eq_of_beq_eq_true e).symm⟩
    | false =>
      rw [e] at h
      obtain ⟨k, b', h1, h2, h3⟩ := ih h
      exact ⟨k + 1, b', h1, by omega, h3⟩
theorem mR_box {m : Mem} {i : Nat} {o : Obj} {xs0 xs : List LBox} : ∀ {n k : Nat} {b : LBox}, xs[k]? = some b → mR m i o xs0 xs n (n + k) = some (.var b.ty ((b.v i).map (rnA xs0))) := by
  induction xs with
  | nil => intro n k b h; cases h
  | cons c r ih =>
    intro n k b h
    cases k with
    | zero =>
      have : c = b := by simpa using h
      subst this
      simp [mR]
    | succ k =>
      have h' : r[k]? = some b := by simpa using h
      show (bif Nat.beq (n + (k + 1)) n then some (.var c.ty ((c.v i).map (rnA xs0))) else mR m i o xs0 r (n + 1) (n + (k + 1))) = _
      rw [nbeq (by omega), cond_false, show n + (k + 1) = n + 1 + k by omega]
      exact ih h'
theorem mR_last {m : Mem} {i : Nat} {o : Obj} {xs0 xs : List LBox} : ∀ {n : Nat}, mR m i o xs0 xs n (n + xs.length) = some (.obj (· = o)) := by
  induction xs with
  | nil => intro n; simp [mR]
  | cons c r ih =>
    intro n
    show (bif Nat.beq (n + (r.length + 1)) n then some (.var c.ty ((c.v i).map (rnA xs0))) else mR m i o xs0 r (n + 1) (n + (r.length + 1))) = _
    rw [nbeq (by omega), cond_false, show n + (r.length + 1) = n + 1 + r.length by omega]
    exact ih
theorem mR_out {m : Mem} {i : Nat} {o : Obj} {xs0 xs : List LBox} : ∀ {n y : Nat}, (y < n ∨ n + xs.length < y) → mR m i o xs0 xs n y = keepR (m y) := by
  induction xs with
  | nil =>
    intro n y h
    have : y ≠ n := by simp at h; omega
    simp [mR, nbeq this]
  | cons c r ih =>
    intro n y h
    simp only [List.length_cons] at h
    show (bif Nat.beq y n then some (.var c.ty ((c.v i).map (rnA xs0))) else mR m i o xs0 r (n + 1) y) = _
    rw [nbeq (by omega), cond_false]
    exact ih (by omega)
theorem ρR_box {ρ : Val} {l : Nat} {xs : List LBox} : ∀ {n k : Nat} {b : LBox}, xs[k]? = some b → ρR ρ l xs n (n + k) = ρ b.x := by
  induction xs with
  | nil => intro n k b h; cases h
  | cons c r ih =>
    intro n k b h
    cases k with
    | zero =>
      have : c = b := by simpa using h
      subst this
      simp [ρR]
    | succ k =>
      have h' : r[k]? = some b := by simpa using h
      show (bif Nat.beq (n + (k + 1)) n then ρ c.x else ρR ρ l r (n + 1) (n + (k + 1))) = _
      rw [nbeq (by omega), cond_false, show n + (k + 1) = n + 1 + k by omega]
      exact ih h'
theorem ρR_last {ρ : Val} {l : Nat} {xs : List LBox} : ∀ {n : Nat}, ρR ρ l xs n (n + xs.length) = (l, 0) := by
  induction xs with
  | nil => intro n; simp [ρR]
  | cons c r ih =>
    intro n
    show (bif Nat.beq (n + (r.length + 1)) n then ρ c.x else ρR ρ l r (n + 1) (n + (r.length + 1))) = _
    rw [nbeq (by omega), cond_false, show n + (r.length + 1) = n + 1 + r.length by omega]
    exact ih
/-- The three kinds of names. -/
theorem name_cases (xs : List LBox) (n y : Nat) : (∃ k b, xs[k]? = some b ∧ y = n + k) ∨ y = n + xs.length ∨ (y < n ∨ n + xs.length < y) := by
  rcases Nat.lt_trichotomy y (n + xs.length) with h | h | h
  · rcases Nat.lt_or_ge y n with h1 | h1
    · exact .inr (.inr (.inl h1))
    · exact .inl ⟨y - n, xs[y - n]'(by omega), List.getElem?_eq_getElem _, by omega⟩
  · exact .inr (.inl h)
  · exact .inr (.inr (.inr h))
theorem keepR_say {o : Option Blk} {b : Blk} (h : keepR o = some b) : ∃ S R, b = .say S R ∧ o = some (.say S R) := by
  unfold keepR at h
  split at h
  · rename_i S R
    injection h with h
    exact ⟨S, R, h.symm, rfl⟩
  · cases h
/-! ### Temporaries in a round -/
def bx0 (m : Mem) (i : Nat) : List LBox → Prop
  | [] => True
  | b :: r => m b.x = some (.var b.ty (b.v i)) ∧ bx0 m i r
theorem bx0_at {m : Mem} {i : Nat} {xs : List LBox} (h : bx0 m i xs) : ∀ {k : Nat} {b : LBox}, xs[k]? = some b → m b.x = some (.var b.ty (b.v i)) := by
  induction xs with
  | nil => intro k b h; cases h
  | cons c r ih =>
    intro k b hb
    cases k with
    | zero =>
      have : c = b := by simpa using hb
      exact this ▸ h.1
    | succ k => exact ih h.2 (k := k) (by simpa using hb)
theorem bx0_mem {m : Mem} {i : Nat} {xs : List LBox} (h : bx0 m i xs) {b : LBox} (hb : b ∈ xs) : m b.x = some (.var b.ty (b.v i)) := by
  obtain ⟨k, hk⟩ := List.getElem?_of_mem hb
  exact bx0_at h hk
def freshX (x : Nat) : List LBox → Bool
  | [] => true
  | b :: r => !(Nat.beq x b.x) && freshX x r
def nodupX : List LBox → Bool
  | [] => true
  | b :: r => freshX b.x r && nodupX r
theorem freshX_at {x : Nat} {xs : List LBox} (h : freshX x xs = true) : ∀ {k : Nat} {b : LBox}, xs[k]? = some b → b.x ≠ x := by
  induction xs with
  | nil => intro k b h; cases h
  | cons c r ih =>
    rw [freshX, Bool.and_eq_true] at h
    intro k b hb
    cases k with
    | zero =>
      have : c = b := by simpa using hb
      subst this
      rintro rfl
      simp at h
    | succ k => exact ih h.2 (k := k) (by simpa using hb)
theorem nodupX_at {xs : List LBox} (h : nodupX xs = true) : ∀ {j k : Nat} {b c : LBox}, xs[j]? = some b → xs[k]? = some c → j ≠ k → b.x ≠ c.x := by
  induction xs with
  | nil => intro j k b c h; cases h
  | cons d r ih =>
    rw [nodupX, Bool.and_eq_true] at h
    intro j k b c hj hk hne
    cases j with
    | zero =>
      have : d = b := by simpa using hj
      subst this
      cases k with
      | zero => exact absurd rfl hne
      | succ k => exact (freshX_at h.1 (k := k) (by simpa using hk)).symm
    | succ j =>
      cases k with
      | zero =>
        have : d = c := by simpa using hk
        subst this
        exact freshX_at h.1 (k := j) (by simpa using hj)
      | succ k => exact ih h.2 (j := j) (k := k) (by simpa using hj) (by simpa using hk) (by omega)
theorem capR_ok {ρ ρ' : Val} {m' : Mem} {xs : List LBox} (hn : ∀ {x y : Nat}, nmOf xs 1500 x = some y → (m' y).isSome = true ∧ ρ' y = ρ x) : ∀ {caps caps' : List Cap}, capR xs caps = some caps' → (∀ c ∈ caps', c.ok m') ∧ caps'.map (Cap.conc ρ') = caps.map (Cap.conc ρ) := by
  intro caps
  induction caps with
  | nil =>
    intro caps' h
    have : [] = caps' := by simpa [capR] using h
    subst this
    exact ⟨(fun c hc => by cases hc), rfl⟩
  | cons c r ih =>
    intro caps' h
    cases c with
    | val v =>
      simp only [capR] at h
      split at h
      · rename_i r' hr
        injection h with h
        subst h
        obtain ⟨h1, h2⟩ := ih hr
        refine ⟨fun c hc => ?_, by rw [List.map_cons, List.map_cons, h2]; rfl⟩
        rcases List.mem_cons.1 hc with rfl | hc
        · trivial
        · exact h1 c hc
      · cases h
    | own x off =>
      simp only [capR] at h
      split at h
      · rename_i y hy
        split at h
        · rename_i r' hr
          injection h with h
          subst h
          obtain ⟨h1, h2⟩ := ih hr
          obtain ⟨h3, h4⟩ := hn hy
          refine ⟨fun c hc => ?_, by rw [List.map_cons, List.map_cons, h2]; simp [Cap.conc, h4]⟩
          rcases List.mem_cons.1 hc with rfl | hc
          · exact h3
          · exact h1 c hc
        · cases h
      · cases h
theorem rnA_ok {ρ ρ' : Val} {m' : Mem} {xs : List LBox} (hn : ∀ {x y : Nat}, nmOf xs 1500 x = some y → (m' y).isSome = true ∧ ρ' y = ρ x) {a : AC} (ha : simA xs a = true) : (rnA xs a).ok ρ' m' ∧ (rnA xs a).conc ρ' = a.conc ρ := by
  cases a with
  | k v => exact ⟨trivial, rfl⟩
  | fn f caps =>
    have ha : (capR xs caps).isSome = true := ha
    obtain ⟨caps', hc⟩ := Option.isSome_iff_exists.1 ha
    obtain ⟨h1, h2⟩ := capR_ok hn hc
    simp only [rnA, hc]
    exact ⟨h1, by simp only [AC.conc, h2]⟩
  | _ => cases ha
theorem rnL_ok {ρ ρ' : Val} {m' : Mem} {xs : List LBox} (hn : ∀ {x y : Nat}, nmOf xs 1500 x = some y → (m' y).isSome = true ∧ ρ' y = ρ x) {l : List AC} (hl : l.all (simA xs) = true) : (∀ c ∈ l.map (rnA xs), c.ok ρ' m') ∧ (l.map (rnA xs)).map (AC.conc ρ') = l.map (AC.conc ρ) := by
  rw [List.all_eq_true] at hl
  refine ⟨fun c hc => ?_, ?_⟩
  · obtain ⟨a, ha, rfl⟩ := List.mem_map.1 hc
    exact (rnA_ok hn (hl a ha)).1
  · rw [List.map_map]
    exact List.map_congr_left fun a ha => (rnA_ok hn (hl a ha)).2
theorem allSim_at {xs0 xs : List LBox} (h : allSim xs0 xs) : ∀ {k : Nat} {b : LBox}, xs[k]? = some b → ∀ i, (b.v i).all (simA xs0) = true := by
  induction xs with
  | nil => intro k b h; cases h
  | cons c r ih =>
    intro k b hb
    cases k with
    | zero =>
      have : c = b := by simpa using hb
      exact this ▸ h.1
    | succ k => exact ih h.2 (k := k) (by simpa using hb)
/-- A closure's cell names boxes that are there. -/
theorem simA_ok {ρ : Val} {m : Mem} {xs : List LBox} (hm : ∀ b ∈ xs, (m b.x).isSome = true) {a : AC} (ha0 : simA xs a = true) : a.ok ρ m := by
  cases a with
  | k v => trivial
  | fn f caps =>
    have ha : (capR xs caps).isSome = true := ha0
    clear ha0
    show ∀ c ∈ caps, c.ok m
    induction caps with
    | nil => intro c hc; cases hc
    | cons c r ih =>
      cases c with
      | val v =>
        simp only [capR] at ha
        split at ha
        · rename_i r' hr
          intro c hc
          rcases List.mem_cons.1 hc with rfl | hc
          · trivial
          · exact ih (by rw [hr]; rfl) c hc
        · cases ha
      | own x off =>
        simp only [capR] at ha
        split at ha
        · rename_i y hy
          split at ha
          · rename_i r' hr
            intro c hc
            rcases List.mem_cons.1 hc with rfl | hc
            · obtain ⟨k, b, h1, _, h3⟩ := nmOf_at hy
              rw [← h3]
              exact hm b (List.mem_of_getElem? h1)
            · exact ih (by rw [hr]; rfl) c hc
          · cases ha
        · cases ha
  | _ => cases ha0
theorem rdT_rep {ρ : Val} {m : Mem} {l i : Nat} {o : Obj} {xs : List LBox} {tv : TV} {v : Value} (h : tv.rep ρ m v) : (rdT xs tv).rep (ρR ρ l xs 1500) (mR m i o xs xs 1500) v := by
  have hn : ∀ {x y : Nat}, nmOf xs 1500 x = some y → (mR m i o xs xs 1500 y).isSome = true ∧ ρR ρ l xs 1500 y = ρ x := by
    intro x y hy
    obtain ⟨k, b, h1, rfl, rfl⟩ := nmOf_at hy
    exact ⟨by rw [mR_box h1]; rfl, ρR_box h1⟩
  have hcap : ∀ {caps caps' : List Cap}, capR xs caps = some caps' → (∀ c ∈ caps', c.ok (mR m i o xs xs 1500)) ∧ caps'.map (Cap.conc (ρR ρ l xs 1500)) = caps.map (Cap.conc ρ) := fun h => capR_ok hn h
  unfold rdT
  split
  · exact ⟨trivial, h.2⟩
  · split
    · rename_i y hy
      obtain ⟨h3, h4⟩ := hn hy
      exact ⟨h3, by rw [h.2]; simp [AV.conc, AC.conc, h4]⟩
    · trivial
  · split
    · rename_i caps' hc
      obtain ⟨h1, h2⟩ := hcap hc
      exact ⟨h1, by rw [h.2]; simp only [AV.conc, AC.conc, h2]⟩
    · trivial
  · rename_i l0
    cases e : l0.all isKA with
    | false => trivial
    | true =>
      rw [List.all_eq_true] at e
      have hk : ∀ a ∈ l0, ∃ v, a = .k v := fun a ha => by
        have := e a ha
        cases a <;> first
          | exact ⟨_, rfl⟩
          | cases this
      refine ⟨fun a ha => by obtain ⟨v, rfl⟩ := hk a ha; trivial, ?_⟩
      rw [h.2]
      simp only [AV.conc]
      congr 2
      refine List.map_congr_left fun a ha => ?_
      obtain ⟨v, rfl⟩ := hk a ha
      rfl
  · trivial
def putTs : List Nat → List Value → (Nat → TV) → Nat → TV
  | p :: ps, v :: vs, t => putTs ps vs (up t p (toTV v))
  | _, _, t => t
theorem putA_list (ps : List Nat) (vs : List Value) (a : Array Value) : putA ps.toArray vs.toArray a = (ps.zip vs).foldl (fun tmps (t, a) => tmps.setIfInBounds t a) a := by
  unfold putA
  rw [← Array.foldl_toList]
  simp
theorem putTs_rep {ρ : Val} {m : Mem} {N : Nat} : ∀ {ps : List Nat} {vs : List Value} {t : Nat → TV} {a : Array Value}, (ps.all fun p => Nat.blt p N) = true → a.size = N → (∀ j, (t j).rep ρ m (a.getD j undef)) →
    ((ps.zip vs).foldl (fun tmps (t, a) => tmps.setIfInBounds t a) a).size = N ∧ ∀ j, (putTs ps vs t j).rep ρ m (((ps.zip vs).foldl (fun tmps (t, a) => tmps.setIfInBounds t a) a).getD j undef) := by
  intro ps
  induction ps with
  | nil => intro vs t a _ hs h; exact ⟨by simpa using hs, by simpa [putTs] using h⟩
  | cons p ps ih =>
    intro vs t a hp hs h
    rw [List.all_cons, Bool.and_eq_true] at hp
    have hpN : p < N := Nat.le_of_ble_eq_true hp.1
    cases vs with
    | nil => exact ⟨by simpa using hs, by simpa [putTs] using h⟩
    | cons v vs =>
      simp only [List.zip_cons_cons, List.foldl_cons, putTs]
      refine ih hp.2 (by simpa using hs) fun j => ?_
      by_cases e : j = p
      · subst e
        rw [up_same, getD_set v (by omega)]
        exact toTV_rep _ _ _
      · rw [up_other _ _ e, getD_set_ne v e]
        exact h j
/-! ### The state of a round -/
def envR (W1 : World) (ρ : Val) (l N : Nat) (xs : List LBox) : Env := ⟨W1, borT 1500 (xs.map (fun b => (ρ b.x).1) ++ [l]), N, some l, []⟩
theorem borR_mem {ρ : Val} {l : Nat} {xs : List LBox} {p : Nat × Nat} (h : p ∈ borT 1500 (xs.map (fun b => (ρ b.x).1) ++ [l])) : (∃ k b, xs[k]? = some b ∧ p = (1500 + k, (ρ b.x).1)) ∨ p = (1500 + xs.length, l) := by
  obtain ⟨y, g⟩ := p
  obtain ⟨j, h1, h2⟩ := borT_at h
  rcases Nat.lt_trichotomy j xs.length with hj | hj | hj
  · rw [List.getElem?_append_left (by simpa using hj), List.getElem?_map, List.getElem?_eq_getElem hj] at h2
    exact .inl ⟨j, xs[j], List.getElem?_eq_getElem hj, by rw [h1]; simp at h2; rw [h2]⟩
  · rw [List.getElem?_append_right (by simp [hj])] at h2
    simp [hj] at h2
    exact .inr (by rw [h1, hj, h2])
  · rw [List.getElem?_eq_none (by simp; omega)] at h2
    cases h2
theorem borR_in {ρ : Val} {l : Nat} {xs : List LBox} {k : Nat} {b : LBox} (h : xs[k]? = some b) : (1500 + k, (ρ b.x).1) ∈ borT 1500 (xs.map (fun b => (ρ b.x).1) ++ [l]) := by
  have hlt := (List.getElem?_eq_some_iff.1 h).1
  refine borT_in ?_
  rw [List.getElem?_append_left (by simpa using hlt), List.getElem?_map, h]
  rfl
theorem borR_last {ρ : Val} {l : Nat} {xs : List LBox} : (1500 + xs.length, l) ∈ borT 1500 (xs.map (fun b => (ρ b.x).1) ++ [l]) := by
  refine borT_in ?_
  rw [List.getElem?_append_right (by simp)]
  simp
theorem boxAt_at {w : World} {ρ ρ0 : Val} {i : Nat} {xs : List LBox} (h : BoxAt w (xs.map fun b => (ρ b.x).1) (xs.map fun b => (b.ty, (b.v i).map (AC.conc ρ0)))) : ∀ {k : Nat} {b : LBox}, xs[k]? = some b → w.heap[(ρ b.x).1]? = some (.cells ((b.v i).map (AC.conc ρ0)).toArray b.ty (0, 0)) := by
  induction xs with
  | nil => intro k b h; cases h
  | cons c r ih =>
    intro k b hb
    cases k with
    | zero =>
      have : c = b := by simpa using hb
      subst this
      exact h.1
    | succ k => exact ih h.2 (k := k) (by simpa using hb)
theorem boxAt_of {w : World} {ρ ρ0 : Val} {i : Nat} {xs : List LBox} (h : ∀ (k : Nat) (b : LBox), xs[k]? = some b → w.heap[(ρ b.x).1]? = some (.cells ((b.v i).map (AC.conc ρ0)).toArray b.ty (0, 0))) : BoxAt w (xs.map fun b => (ρ b.x).1) (xs.map fun b => (b.ty, (b.v i).map (AC.conc ρ0))) := by
  induction xs with
  | nil => trivial
  | cons c r ih => exact ⟨h 0 c rfl, ih fun k b hb => h (k + 1) b (by simpa using hb)⟩
theorem map_kc {ρ : Val} (l : List Value) : (l.map AC.k).map (AC.conc ρ) = l := by
  rw [List.map_map]
  exact (List.map_congr_left fun _ _ => rfl).trans (List.map_id l)
theorem Sat.round {ρ : Val} {t : Nat → TV} {m : Mem} {a : Act} {w W1 : World} (hs : Sat E ρ ⟨t, m⟩ a w) {xs : List LBox} {i l : Nat} {o : Obj} (h0 : bx0 m 0 xs) (hsim : allSim xs xs) (hnd : nodupX xs = true) (hfr : Fr w (xs.map fun b => (ρ b.x).1) W1) (hl : w.heap.size ≤ l) (ho : W1.heap[l]? = some o)
    (hb : BoxAt W1 (xs.map fun b => (ρ b.x).1) (xs.map fun b => (b.ty, (b.v i).map (AC.conc ρ)))) (ps : List Nat) (vs : List Value) (hp : (ps.all fun p => Nat.blt p E.N) = true) :
    Sat (envR W1 ρ l E.N xs) (ρR ρ l xs 1500) ⟨putTs ps vs fun j => rdT xs (t j), mR m i o xs xs 1500⟩ { tmps := putA ps.toArray vs.toArray a.tmps, defers := [] } W1 := by
  have hown : ∀ {k : Nat} {b : LBox}, xs[k]? = some b → ∃ cs : List AC, m b.x = some (.var b.ty cs) := fun hk => ⟨_, bx0_at h0 hk⟩
  have hn : ∀ {x y : Nat}, nmOf xs 1500 x = some y → (mR m i o xs xs 1500 y).isSome = true ∧ ρR ρ l xs 1500 y = ρ x := by
    intro x y hy
    obtain ⟨k, b, h1, rfl, rfl⟩ := nmOf_at hy
    exact ⟨by rw [mR_box h1]; rfl, ρR_box h1⟩
  have hlt : ∀ {k : Nat} {b : LBox}, xs[k]? = some b → (ρ b.x).1 < w.heap.size := fun hk => by
    obtain ⟨_, h⟩ := hown hk
    exact hs.mem.lt h trivial
  have hll : l < W1.heap.size := lt_of_heap ho
  have hsay : ∀ {y : Nat} {S : Nat → Prop} {R : World → Prop}, m y = some (.say S R) → ∀ k, S k → k < w.heap.size ∧ ∀ (j : Nat) (b : LBox), xs[j]? = some b → k ≠ (ρ b.x).1 := by
    intro y S R hy k hk
    refine ⟨(hs.mem.ok y _ hy).2.1 k hk, fun j b hj e => ?_⟩
    obtain ⟨_, h⟩ := hown hj
    by_cases e2 : b.x = y
    · rw [e2, hy] at h; cases h
    · exact hs.mem.ne b.x y _ _ h hy trivial trivial e2 (e ▸ hk)
  have hM : SatM (envR W1 ρ l E.N xs) (ρR ρ l xs 1500) (mR m i o xs xs 1500) W1 := by
    refine ⟨Fr.refl _ _, fun p hp => ?_, fun y b hy => ?_, fun x y b c hx hy ho' hlv hne => ?_⟩
    · rcases borR_mem hp with ⟨k, b, hk, rfl⟩ | rfl
      · refine ⟨?_, by show 1000 ≤ 1500 + k; omega⟩
        show ρR ρ l xs 1500 (1500 + k) = _
        rw [ρR_box hk]
        obtain ⟨_, h⟩ := hown hk
        have := (hs.mem.ok _ _ h).1
        exact Prod.ext rfl this
      · exact ⟨ρR_last, by show 1000 ≤ 1500 + xs.length; omega⟩
    · rcases name_cases xs 1500 y with ⟨k, b', hk, rfl⟩ | rfl | hy'
      · rw [mR_box hk] at hy
        injection hy with hy
        subst hy
        obtain ⟨_, h⟩ := hown hk
        obtain ⟨q1, q2⟩ := rnL_ok hn (allSim_at hsim hk i)
        refine ⟨by rw [ρR_box hk]; exact (hs.mem.ok _ _ h).1, .inr ?_, ?_, q1⟩
        · rw [ρR_box hk]; exact borR_in hk
        · rw [ρR_box hk, boxAt_at hb hk, q2]
      · rw [mR_last] at hy
        injection hy with hy
        subst hy
        refine ⟨by rw [ρR_last], .inr ?_, o, by rw [ρR_last]; exact ho, rfl⟩
        rw [ρR_last]; exact borR_last
      · rw [mR_out hy'] at hy
        obtain ⟨S, R, rfl, hm⟩ := keepR_say hy
        obtain ⟨h1, h2, h3⟩ := hs.mem.ok y _ hm
        refine ⟨h3 w W1 (fun k hk => hfr.block k (h2 k hk) fun hkx => ?_) hfr.size h1, fun k hk => Nat.lt_of_lt_of_le (h2 k hk) hfr.size, h3⟩
        obtain ⟨b, hb1, hb2⟩ := List.mem_map.1 hkx
        obtain ⟨j, hj⟩ := List.getElem?_of_mem hb1
        exact (hsay hm k hk).2 j b hj hb2.symm
    · -- apart
      rcases name_cases xs 1500 x with ⟨k, b', hk, rfl⟩ | rfl | hx'
      · rw [ρR_box hk]
        rcases name_cases xs 1500 y with ⟨j, c', hj, rfl⟩ | rfl | hy'
        · rw [mR_box hj] at hy
          injection hy with hy
          subst hy
          show (ρ b'.x).1 ≠ (ρR ρ l xs 1500 (1500 + j)).1
          rw [ρR_box hj]
          obtain ⟨_, h1⟩ := hown hk
          obtain ⟨_, h2⟩ := hown hj
          exact hs.mem.ne b'.x c'.x _ _ h1 h2 trivial trivial (nodupX_at hnd hk hj (by omega))
        · rw [mR_last] at hy
          injection hy with hy
          subst hy
          show (ρ b'.x).1 ≠ (ρR ρ l xs 1500 (1500 + xs.length)).1
          rw [ρR_last]
          have := hlt hk
          show (ρ b'.x).1 ≠ l
          omega
        · rw [mR_out hy'] at hy
          obtain ⟨S, R, rfl, hm⟩ := keepR_say hy
          exact fun hk' => (hsay hm _ hk').2 k b' hk rfl
      · rw [ρR_last]
        rcases name_cases xs 1500 y with ⟨j, c', hj, rfl⟩ | rfl | hy'
        · rw [mR_box hj] at hy
          injection hy with hy
          subst hy
          show l ≠ (ρR ρ l xs 1500 (1500 + j)).1
          rw [ρR_box hj]
          have := hlt hj
          omega
        · exact absurd rfl hne
        · rw [mR_out hy'] at hy
          obtain ⟨S, R, rfl, hm⟩ := keepR_say hy
          intro hk'
          have := (hsay hm _ hk').1
          have : l < w.heap.size := this
          omega
      · rw [mR_out hx'] at hx
        obtain ⟨S, R, rfl, hm⟩ := keepR_say hx
        exact ho'.elim
  have h0i : ∀ j, (rdT xs (t j)).rep (ρR ρ l xs 1500) (mR m i o xs xs 1500) (a.tmps.getD j undef) := fun j => rdT_rep (hs.tm j)
  have hput := putTs_rep (N := E.N) (ps := ps) (vs := vs) (ρ := ρR ρ l xs 1500) (m := mR m i o xs xs 1500) hp hs.sz h0i
  refine ⟨hM, rfl, ?_, fun j => ?_⟩
  · show (putA ps.toArray vs.toArray a.tmps).size = E.N
    rw [putA_list]; exact hput.1
  · show TV.rep _ _ _ ((putA ps.toArray vs.toArray a.tmps).getD j undef)
    rw [putA_list]; exact hput.2 j
/-- Another record lies at the loop's block. -/
theorem Sat.rerec {ρ : Val} {st : St} {a : Act} {w w' : World} (hs : Sat E ρ st a w) {n l : Nat} {o o' : Obj} (hn : st.m n = some (.obj (· = o))) (hbo : (n, l) ∈ E.bor) (hfr : Fr w [l] w') (ho : w'.heap[l]? = some o') :
    Sat E ρ ⟨st.t, up st.m n (some (.obj (· = o')))⟩ a w' := by
  obtain ⟨t, m⟩ := st
  have hρ : ρ n = (l, 0) := (hs.mem.bo _ hbo).1
  have hM : SatM E ρ (up m n (some (.obj (· = o')))) w' := by
    refine ⟨hs.mem.fr.trans' hfr fun k _ hk => ?_, hs.mem.bo, fun y b hy => ?_, fun x y b c hx hy hob hlv hne => ?_⟩
    · rw [List.mem_singleton.1 hk]; exact List.mem_map_of_mem (f := (·.2)) hbo
    · by_cases e : y = n
      · subst e
        rw [up_same] at hy
        injection hy with hy
        subst hy
        exact ⟨by rw [hρ], .inr (by rw [hρ]; exact hbo), o', by rw [hρ]; exact ho, rfl⟩
      · rw [up_other _ _ e] at hy
        refine (hs.mem.ok y b hy).far (fun z hz => isSome_up z hz) hfr.size fun k hk hlv => hfr.block k (hs.mem.lt' hy hlv hk) fun hkl => ?_
        have hkl := List.mem_singleton.1 hkl
        refine hs.mem.ne n y _ b hn hy trivial hlv (Ne.symm e) ?_
        rw [hρ, ← hkl]; exact hk
    · have key : ∀ z d, up m n (some (.obj (· = o'))) z = some d → ∃ d', m z = some d' ∧ (d.own → d'.own) ∧ (d.live → d'.live) ∧ ∀ k, d.hits (ρ z) k → d'.hits (ρ z) k := by
        intro z d hz
        by_cases e : z = n
        · subst e
          rw [up_same] at hz
          injection hz with hz
          subst hz
          exact ⟨_, hn, fun _ => trivial, fun _ => trivial, fun k hk => hk⟩
        · rw [up_other _ _ e] at hz
          exact ⟨d, hz, id, id, fun _ h => h⟩
      obtain ⟨b', h1, h2, _, _⟩ := key x b hx
      obtain ⟨c', h4, _, h5, h6⟩ := key y c hy
      exact fun hk => hs.mem.ne x y b' c' h1 h4 (h2 hob) (h5 hlv) hne (h6 _ hk)
  exact hs.remem0 hM fun z hz => isSome_up z hz
/-- What is told of the boxes behind a round. -/
def outR (m : Mem) (i : Nat) (xs0 : List LBox) : List LBox → Nat → Prop
  | [], _ => True
  | b :: r, n => m n = some (.var b.ty ((b.v i).map (rnA xs0))) ∧ outR m i xs0 r (n + 1)
theorem outR_at {m : Mem} {i : Nat} {xs0 xs : List LBox} : ∀ {n k : Nat} {b : LBox}, outR m i xs0 xs n → xs[k]? = some b → m (n + k) = some (.var b.ty ((b.v i).map (rnA xs0))) := by
  induction xs with
  | nil => intro n k b _ h; cases h
  | cons c r ih =>
    intro n k b h hb
    cases k with
    | zero =>
      have : c = b := by simpa using hb
      subst this
      exact h.1
    | succ k =>
      have := ih (n := n + 1) (k := k) h.2 (by simpa using hb)
      rwa [show n + (k + 1) = n + 1 + k by omega]
/-- Behind the loop. -/
def aftM (m : Mem) (X D i : Nat) : List LBox → Mem
  | [] => fun y => bif Nat.beq y X then some (.say (· = D) fun w1 => w1.heap[D]? = some (.deferred (some []))) else m y
  | b :: r => fun y => bif Nat.beq y b.x then some (.var b.ty (b.v i)) else aftM m X D i r y
theorem aftM_box {m : Mem} {X D i : Nat} {xs : List LBox} (hnd : nodupX xs = true) : ∀ {k : Nat} {b : LBox}, xs[k]? = some b → aftM m X D i xs b.x = some (.var b.ty (b.v i)) := by
  induction xs with
  | nil => intro k b h; cases h
  | cons c r ih =>
    rw [nodupX, Bool.and_eq_true] at hnd
    intro k b hb
    cases k with
    | zero =>
      have : c = b := by simpa using hb
      subst this
      simp [aftM]
    | succ k =>
      have hb' : r[k]? = some b := by simpa using hb
      show (bif Nat.beq b.x c.x then some (.var c.ty (c.v i)) else aftM m X D i r b.x) = _
      rw [nbeq (freshX_at hnd.1 hb'), cond_false]
      exact ih hnd.2 hb'
theorem aftM_out {m : Mem} {X D i : Nat} {xs : List LBox} : ∀ {y : Nat}, (∀ b ∈ xs, b.x ≠ y) → aftM m X D i xs y = bif Nat.beq y X then some (.say (· = D) fun w1 => w1.heap[D]? = some (.deferred (some []))) else m y := by
  induction xs with
  | nil => intro y _; rfl
  | cons c r ih =>
    intro y h
    show (bif Nat.beq y c.x then some (.var c.ty (c.v i)) else aftM m X D i r y) = _
    rw [nbeq (Ne.symm (h c (by simp))), cond_false]
    exact ih fun b hb => h b (by simp [hb])
theorem Sat.afterA {ρ : Val} {t : Nat → TV} {m m' : Mem} {a : Act} {w W3 : World} (hs : Sat E ρ ⟨t, m⟩ a w) (xs : List (Nat × TypeId × List AC)) (hfr : Fr w (xs.map fun x => (ρ x.1).1) W3) (X : Nat) (hD : w.heap.size < W3.heap.size) (hd : W3.heap[w.heap.size]? = some (.deferred (some [])))
    (hx : ∀ x ∈ xs, ∃ cs, m x.1 = some (.var x.2.1 cs)) (hb : BoxAt W3 (xs.map fun x => (ρ x.1).1) (xs.map fun x => (x.2.1, x.2.2.map (AC.conc ρ)))) (hcok : ∀ x ∈ xs, ∀ c ∈ x.2.2, c.ok ρ m')
    (hm' : ∀ x ∈ xs, m' x.1 = some (.var x.2.1 x.2.2)) (hX : m' X = some (.say (· = w.heap.size) fun w1 => w1.heap[w.heap.size]? = some (.deferred (some [])))) (hXx : ∀ x ∈ xs, x.1 ≠ X) (hmX : m X = none) (hmo : ∀ y, y ≠ X → (∀ x ∈ xs, x.1 ≠ y) → m' y = m y) (dfr : List Deferred) :
    Sat { E with dfr := dfr } ρ ⟨t, m'⟩ { a with defers := dfr } W3 := by
  have hbx : ∀ x ∈ xs, W3.heap[(ρ x.1).1]? = some (.cells (x.2.2.map (AC.conc ρ)).toArray x.2.1 (0, 0)) := by
    clear hfr hx hm' hXx hmo hcok
    induction xs with
    | nil => intro x hx; cases hx
    | cons y r ih =>
      intro x hx
      rcases List.mem_cons.1 hx with rfl | hx
      · exact hb.1
      · exact ih hb.2 x hx
  have hsz : ∀ z, (m z).isSome = true → (m' z).isSome = true := fun z hz => by
    by_cases e : z = X
    · rw [e, hX]; rfl
    by_cases h : ∃ x ∈ xs, x.1 = z
    · obtain ⟨x, hxm, rfl⟩ := h
      rw [hm' x hxm]; rfl
    · rw [hmo z e fun x hx e => h ⟨x, hx, e⟩]; exact hz
  have cls : ∀ z b, m' z = some b → (z = X ∧ b = .say (· = w.heap.size) fun w1 => w1.heap[w.heap.size]? = some (.deferred (some []))) ∨ (∃ x ∈ xs, x.1 = z ∧ b = .var x.2.1 x.2.2 ∧ ∃ cs, m z = some (.var x.2.1 cs)) ∨ (z ≠ X ∧ (∀ x ∈ xs, x.1 ≠ z) ∧ m z = some b) := by
    intro z b hz
    by_cases e : z = X
    · rw [e, hX] at hz; injection hz with hz; exact .inl ⟨e, hz.symm⟩
    by_cases h : ∃ x ∈ xs, x.1 = z
    · obtain ⟨x, hxm, rfl⟩ := h
      rw [hm' x hxm] at hz; injection hz with hz
      exact .inr (.inl ⟨x, hxm, rfl, hz.symm, hx x hxm⟩)
    · have h : ∀ x ∈ xs, x.1 ≠ z := fun x hx e => h ⟨x, hx, e⟩
      rw [hmo z e h] at hz
      exact .inr (.inr ⟨e, h, hz⟩)
  have hfrE : Fr E.w0 (E.bor.map (·.2)) W3 := hs.mem.fr.trans' hfr fun k hk hkx => by
    obtain ⟨x, hxm, rfl⟩ := List.mem_map.1 hkx
    obtain ⟨cs, hc⟩ := hx x hxm
    rcases hs.mem.ownGe hc trivial with h | h
    · omega
    · exact List.mem_map_of_mem (f := (·.2)) h
  have hM : SatM E ρ m' W3 := by
    refine ⟨hfrE, hs.mem.bo, fun z b hz => ?_, fun x y b c hxm hym ho hl hne => ?_⟩
    · rcases cls z b hz with ⟨rfl, rfl⟩ | ⟨x, hxm, rfl, rfl, cs, hc⟩ | ⟨e, h, hz'⟩
      · exact ⟨hd, fun k hk => hk ▸ hD, fun w1 w2 h1 _ h => (h1 _ rfl).trans h⟩
      · have h1 := hs.mem.ok _ _ hc
        exact ⟨h1.1, h1.2.1, hbx x hxm, hcok x hxm⟩
      · refine (hs.mem.ok z b hz').far hsz hfr.size fun k hk hlv => hfr.block k (hs.mem.lt' hz' hlv hk) fun hkx => ?_
        obtain ⟨x, hxm, rfl⟩ := List.mem_map.1 hkx
        obtain ⟨cs, hc⟩ := hx x hxm
        exact hs.mem.ne x.1 z _ b hc hz' trivial hlv (h x hxm) hk
    · -- apart
      have own : ∀ z b, m' z = some b → b.own → ∃ b0, m z = some b0 ∧ b0.own := by
        intro z b hz hob
        rcases cls z b hz with ⟨rfl, rfl⟩ | ⟨x, hxm, rfl, rfl, cs, hc⟩ | ⟨e, h, hz'⟩
        · exact hob.elim
        · exact ⟨_, hc, trivial⟩
        · exact ⟨b, hz', hob⟩
      obtain ⟨b0, hb0, ho0⟩ := own x b hxm ho
      rcases cls y c hym with ⟨rfl, rfl⟩ | ⟨z, hzm, rfl, rfl, cs, hc⟩ | ⟨e, h, hy'⟩
      · intro hk
        have : (ρ x).1 = w.heap.size := hk
        have := hs.mem.lt hb0 ho0
        omega
      · exact hs.mem.ne x z.1 b0 (.var z.2.1 cs) hb0 hc ho0 trivial hne
      · exact hs.mem.ne x y b0 c hb0 hy' ho0 hl hne
  exact ⟨⟨hM.fr, hM.bo, hM.ok, hM.ne⟩, rfl, hs.sz, fun j => TV.rep_mono hsz (fun _ _ => rfl) (hs.tm j)⟩
def markD (D : Nat) : Deferred := { target := .collected D, args := #[] }
/-- THE RULE OF A RANGE. -/
theorem GR.rangeK (h0 : E.rnd = none) {g : Operand} {psA : Array Tmp} {assign body y : Code} {id : Nat} {Q : Exit → Act → World → Prop} {t : Nat → TV} {m : Mem} {gv : Value} {rd : Nat → Prop} {n : Nat} {val : Nat → Array Value} {S : Nat → Prop} {R : World → Prop}
    (XI X : Nat) (xs : List LBox) (go : Nat → Bool) (ps : List Nat) (vl : Nat → List Value)
    (hg : evT t g = .v (.c (.k gv))) (hI : m XI = some (.say S R)) (hR : ∀ w, R w → IterC P gv rd n val w) (hrd : ∀ k, rd k → S k) (hx0 : bx0 m 0 xs) (hsim : allSim xs xs) (hnd : nodupX xs = true) (hmX : m X = none)
    (hps : psA = ps.toArray) (hv : ∀ i, val i = (vl i).toArray) (hlen : ∀ i, (vl i).length = ps.length) (hpN : (ps.all fun p => Nat.blt p E.N) = true) (hna : nd assign = true) (hnb : nd body = true)
    (hround : ∀ W1 ρ l i o, i < n → (∀ j, j < i → go j = true) →
      G P (envR W1 ρ l E.N xs) (fun e s => e = .normal ∧ s.m (1500 + xs.length) = some (.obj (· = o)) ∧ ∀ o', G P (envR W1 ρ l E.N xs) (fun e s => e = (if go i = true then Exit.normal else Exit.ret) ∧ s.m (1500 + xs.length) = some (.obj (· = o')) ∧ outR s.m (i + 1) xs xs 1500) body ⟨s.t, up s.m (1500 + xs.length) (some (.obj (· = o')))⟩)
        assign ⟨putTs ps (vl i) fun j => rdT xs (t j), mR m i o xs xs 1500⟩)
    (hdone : (∀ j, j < n → go j = true) → ∀ D, E.w0.heap.size ≤ D → (∀ z S R, m z = some (.say S R) → ∀ k, S k → k < D) → GR P { E with dfr := markD D :: E.dfr } Q y ⟨t, aftM m X D n xs⟩)
    (hstop : ∀ i, i < n → (∀ j, j < i → go j = true) → go i = false → ∀ D, E.w0.heap.size ≤ D → (∀ z S R, m z = some (.say S R) → ∀ k, S k → k < D) → QR { E with dfr := markD D :: E.dfr } Q .ret ⟨t, aftM m X D (i + 1) xs⟩) :
    GR P E (Exit.then (y.wpIn (fenR none) 6 P Q) Q) (.block id (.rangeFunc g psA assign body)) ⟨t, m⟩ := by
  intro ρ a w hs
  subst hps
  have hown : ∀ {k : Nat} {b : LBox}, xs[k]? = some b → m b.x = some (.var b.ty (b.v 0)) := fun hk => bx0_at hx0 hk
  have hXx : ∀ b ∈ xs, b.x ≠ X := fun b hb e => by
    have := bx0_mem hx0 hb
    rw [e, hmX] at this; cases this
  obtain ⟨hr1, hr2, hr3⟩ := hs.mem.ok XI _ hI
  have hgv : a.eval g = gv := by
    have := hs.eval g
    rw [show St.ev ⟨t, m⟩ g = _ from hg] at this
    exact this.2
  have hT : ∀ k ∈ xs.map (fun b => (ρ b.x).1), k < w.heap.size ∧ ¬ rd k := by
    intro k hk
    obtain ⟨b, hb, rfl⟩ := List.mem_map.1 hk
    have h1 := bx0_mem hx0 hb
    refine ⟨hs.mem.lt h1 trivial, fun h => ?_⟩
    have hne : b.x ≠ XI := fun e => by rw [e, hI] at h1; cases h1
    exact hs.mem.ne b.x XI _ _ h1 hI trivial trivial hne (hrd _ h)
  have hbox0 : BoxAt w (xs.map fun b => (ρ b.x).1) (xs.map fun b => (b.ty, (b.v 0).map (AC.conc ρ))) := boxAt_of fun k b hk => (hs.mem.ok _ _ (hown hk)).2.2.1
  have hDw : E.w0.heap.size ≤ w.heap.size := hs.mem.fr.size
  have hsayD : ∀ z S R, m z = some (.say S R) → ∀ k, S k → k < w.heap.size := fun z S R hz k hk => (hs.mem.ok z _ hz).2.1 k hk
  -- behind i rounds
  have haft : ∀ i W3, Fr w (xs.map fun b => (ρ b.x).1) W3 → BoxAt W3 (xs.map fun b => (ρ b.x).1) (xs.map fun b => (b.ty, (b.v i).map (AC.conc ρ))) → w.heap.size < W3.heap.size → W3.heap[w.heap.size]? = some (.deferred (some [])) →
      Sat { E with dfr := markD w.heap.size :: E.dfr } ρ ⟨t, aftM m X w.heap.size i xs⟩ { a with defers := markD w.heap.size :: E.dfr } W3 := by
    intro i W3 hf hb hD hd
    refine hs.afterA (xs.map fun b => (b.x, b.ty, b.v i)) (by simpa [List.map_map, Function.comp_def] using hf) X hD hd ?_ (by simpa [List.map_map, Function.comp_def] using hb) ?_ ?_ ?_ ?_ hmX ?_ _
    · intro x hx
      obtain ⟨b, hb, rfl⟩ := List.mem_map.1 hx
      exact ⟨_, bx0_mem hx0 hb⟩
    · intro x hx c hc
      obtain ⟨b, hb, rfl⟩ := List.mem_map.1 hx
      obtain ⟨k, hk⟩ := List.getElem?_of_mem hb
      have hal := allSim_at hsim hk i
      rw [List.all_eq_true] at hal
      refine simA_ok (fun b' hb' => ?_) (hal c hc)
      obtain ⟨k', hk'⟩ := List.getElem?_of_mem hb'
      rw [aftM_box hnd hk']; rfl
    · intro x hx
      obtain ⟨b, hb, rfl⟩ := List.mem_map.1 hx
      obtain ⟨k, hk⟩ := List.getElem?_of_mem hb
      exact aftM_box hnd hk
    · rw [aftM_out hXx]; simp
    · intro x hx
      obtain ⟨b, hb, rfl⟩ := List.mem_map.1 hx
      exact hXx b hb
    · intro z hz hzx
      rw [aftM_out fun b hb => hzx _ (List.mem_map_of_mem (f := fun b : LBox => (b.x, b.ty, b.v i)) hb), nbeq hz]
      rfl
  · refine wpIn_block ?_
    refine wp_rangeC (n := n) (val := val) (rd := rd) hgv (hR w hr1) (fun k hk => hr2 k (hrd k hk)) (fun i _ => by rw [hv i]; simp [hlen i]) (xs.map fun b => (ρ b.x).1) hT go
      (fun i W => BoxAt W (xs.map fun b => (ρ b.x).1) (xs.map fun b => (b.ty, (b.v i).map (AC.conc ρ)))) (fun i => BoxAt.steady _ _) hbox0 ?_ ?_ ?_
    · intro l i W1 hi hgo hl hfr hlt hb
      obtain ⟨o, ho⟩ : ∃ o, W1.heap[l]? = some o := ⟨_, Array.getElem?_eq_getElem hlt⟩
      have hsR := hs.round (i := i) (l := l) (o := o) hx0 hsim hnd hfr (by omega) ho hb ps (vl i) hpN
      rw [hv i]
      have hA := hround W1 ρ l i o hi hgo
      have hbL : (envR W1 ρ l E.N xs).bor.map (·.2) = xs.map (fun b => (ρ b.x).1) ++ [l] := borT_snd _ _
      refine ⟨fun a₁ w₁ => ∃ ρ1 s, Sat (envR W1 ρ l E.N xs) ρ1 s a₁ w₁ ∧ s.m (1500 + xs.length) = some (.obj (· = o)) ∧ ∀ o', G P (envR W1 ρ l E.N xs) (fun e s => e = (if go i = true then Exit.normal else Exit.ret) ∧ s.m (1500 + xs.length) = some (.obj (· = o')) ∧ outR s.m (i + 1) xs xs 1500) body ⟨s.t, up s.m (1500 + xs.length) (some (.obj (· = o')))⟩, ?_, ?_⟩
      · refine wpIn_mono (hA (fun _ => hna) _ _ _ hsR) ?_
        rintro e a1 w1 ⟨ρ1, s, hs1, rfl, h2, h3⟩
        exact ⟨rfl, ρ1, s, hs1, h2, h3⟩
      · rintro a₁ w₁ ⟨ρ1, s, hs1, h2, h3⟩
        have hl1 : ρ1 (1500 + xs.length) = (l, 0) := (hs1.mem.bo _ borR_last).1
        have hfr1 := hs1.mem.fr
        rw [hbL] at hfr1
        have hmor : ∀ {w2 : World}, Fr W1 (xs.map (fun b => (ρ b.x).1) ++ [l]) w2 → Fr W1 (l :: xs.map fun b => (ρ b.x).1) w2 := fun h => Fr.more h fun k hk => by
          rcases List.mem_append.1 hk with h | h
          · exact List.mem_cons_of_mem _ h
          · rw [List.mem_singleton.1 h]; exact List.mem_cons_self
        obtain ⟨_, _, o1, ho1, rfl⟩ := hs1.mem.ok _ _ h2
        rw [hl1] at ho1
        refine ⟨hmor hfr1, ho1.trans ho.symm, fun W2 hf2 => ?_⟩
        have hl2 : l < W2.heap.size := by have := hf2.size; have := lt_of_heap ho1; omega
        obtain ⟨o', ho'⟩ : ∃ o', W2.heap[l]? = some o' := ⟨_, Array.getElem?_eq_getElem hl2⟩
        have hs2 := hs1.rerec h2 borR_last hf2 ho'
        refine wpIn_mono (h3 o' (fun _ => hnb) _ _ _ hs2) ?_
        rintro e a3 W3 ⟨ρ3, s3, hs3, rfl, k1, k2'⟩
        have hl3 : ρ3 (1500 + xs.length) = (l, 0) := (hs3.mem.bo _ borR_last).1
        obtain ⟨_, _, o3, ho3, rfl⟩ := hs3.mem.ok _ _ k1
        rw [hl3] at ho3
        have hfr3 := hs3.mem.fr
        rw [hbL] at hfr3
        refine ⟨rfl, hmor hfr3, ho3.trans ho'.symm, boxAt_of fun k b hk => ?_⟩
        have h5 := hs3.mem.ok _ _ (outR_at k2' hk)
        have h6 : ρ3 (1500 + k) = ((ρ b.x).1, 0) := (hs3.mem.bo _ (borR_in hk)).1
        have h7 := h5.2.2.1
        have hn3 : ∀ {x y : Nat}, nmOf xs 1500 x = some y → (s3.m y).isSome = true ∧ ρ3 y = ρ x := by
          intro x y hy
          obtain ⟨k2, b2, q1, rfl, rfl⟩ := nmOf_at hy
          refine ⟨by rw [outR_at k2' q1]; rfl, (hs3.mem.bo _ (borR_in q1)).1.trans ?_⟩
          have := (hs.mem.ok _ _ (hown q1)).1
          exact Prod.ext rfl this.symm
        rw [h6, (rnL_ok hn3 (allSim_at hsim hk (i + 1))).2] at h7
        exact h7
    · intro hall W3 hf hb hD hd
      have := haft n W3 hf hb hD hd
      rw [hs.df]
      exact hdone hall _ hDw hsayD ρ _ _ this
    · intro i hi hpre hgi W3 hf hb hD hd
      have := haft (i + 1) W3 hf hb hD hd
      rw [hs.df]
      exact wpIn_ret (hstop i hi hpre hgi _ hDw hsayD ρ _ _ this)
theorem G.label {l : Nat} {st : St} (h : K .normal st) : G P E K (.label l) st := fun _ ρ a w hs => wpIn_label ⟨ρ, st, hs, h⟩
/-- A scope through which the run goes without a jump. -/
def scopeK (K : Exit → St → Prop) : Exit → St → Prop
  | .goto _, _ => False
  | e, st => K e st
theorem G.scope (h0 : E.rnd = none) {c : Code} {st : St} (h : G P E (scopeK K) c st) : G P E K (.scope c) st := fun _ ρ a w hs => by
  have h1 := h (fun hr => by rw [h0] at hr; cases hr) ρ a w hs
  rw [h0, fenR_none] at h1 ⊢
  rw [wpIn_wide] at h1 ⊢
  refine wp_scope_straight (wp_mono h1 ?_)
  rintro e a' w' ⟨ρ', st', hs', hk⟩
  cases e <;> first
    | exact hk.elim
    | exact ⟨ρ', st', hs', hk⟩
/-! ### The end behind ranges -/
def shutM (m : Mem) : Mem := fun y => match m y with
  | some (.say _ _) => some (.say (fun _ => False) fun _ => True)
  | some (.ro sz _ _) => some (.ro sz 0 fun _ => [])
  | b => b
theorem Sat.shutAll {ρ : Val} {t : Nat → TV} {m : Mem} {a : Act} {w : World} (hs : Sat E ρ ⟨t, m⟩ a w) {X D : Nat} {R : World → Prop} (o : Obj) (hD : E.w0.heap.size ≤ D) (hX : m X = some (.say (· = D) R)) : Sat E ρ ⟨t, shutM m⟩ a (w.putObj D o) := by
  have hmm : ∀ z, (m z).isSome = true → (shutM m z).isSome = true := fun z hz => by
    unfold shutM
    split <;> first
      | rfl
      | (rename_i h; rw [← h] at hz; exact hz)
      | exact hz
  have key : ∀ z b, shutM m z = some b → (m z = some b ∧ b.own) ∨ b = .say (fun _ => False) (fun _ => True) ∨ ∃ sz, b = .ro sz 0 fun _ => [] := by
    intro z b hz
    unfold shutM at hz
    split at hz
    · injection hz with hz; exact .inr (.inl hz.symm)
    · injection hz with hz; exact .inr (.inr ⟨_, hz.symm⟩)
    · rename_i h1 h2
      refine .inl ⟨hz, ?_⟩
      cases b <;> first
        | trivial
        | (exact absurd hz (h1 _ _))
        | (exact absurd hz (h2 _ _ _))
  refine hs.remem0 (hs.mem.swap (hs.mem.fr.putObj (.inl hD) o) (by simp) hmm fun z b hz => ?_) hmm
  rcases key z b hz with ⟨h1, h2⟩ | rfl | ⟨sz, rfl⟩
  · refine .inl ⟨h1, fun k hl hk => World.putObj_heap_other ?_⟩
    have hzX : z ≠ X := fun e => by rw [e, hX] at h1; injection h1 with h1; rw [← h1] at h2; exact h2.elim
    have h3 := hs.mem.ne z X b _ h1 hX h2 trivial hzX
    have : k = (ρ z).1 := (Blk.own_hits h2).1 hk
    rintro rfl
    exact h3 this.symm
  · exact .inr (.inl ⟨_, _, rfl, trivial, (fun k hk => hk.elim), (fun _ _ _ _ _ => trivial), fun y c hy hc ho hk => hk⟩)
  · exact .inr (.inr ⟨_, _, rfl⟩)
/-- The end of a function behind one range. -/
theorem endM1 (hT : Tab.fine P T) {fn : Func} {R : Ending → World → Prop} {t : Nat → TV} {m : Mem} {e : Exit} {v : Value} (X D : Nat) (he : e = .ret ∨ e = .normal) (hdf : E.dfr = [markD D]) (hD : E.w0.heap.size ≤ D) (hX : m X = some (.say (· = D) fun w1 => w1.heap[D]? = some (.deferred (some []))))
    (hv : resP T ⟨t, shutM m⟩ fn.results.toList = .mk v) (hR : ∀ w', Fr E.w0 (E.bor.map (·.2)) w' → R (.returned v) w') : QR E (bodyPostM (fenR none) 6 P fn R) e ⟨t, m⟩ := by
  intro ρ a w hs
  have h2 := hs.shutAll (.deferred none) hD hX
  exact marks_end he (by rw [hs.df, hdf]; rfl) (hs.mem.ok X _ hX).1 (results_run hT h2 hv) (hR _ h2.mem.fr)
theorem marks_end2 {fn : Func} {R : Ending → World → Prop} {e : Exit} {a : Act} {w : World} {D1 D2 : Nat} {v : Value} (he : e = .ret ∨ e = .normal) (hd : a.defers = [markD D2, markD D1]) (hK2 : w.heap[D2]? = some (.deferred (some []))) (hK1 : w.heap[D1]? = some (.deferred (some []))) (hne : D1 ≠ D2)
    (hv : (results fn a.tmps).run P ((w.putObj D2 (.deferred none)).putObj D1 (.deferred none)) = .ok v ((w.putObj D2 (.deferred none)).putObj D1 (.deferred none))) (hR : R (.returned v) ((w.putObj D2 (.deferred none)).putObj D1 (.deferred none))) : bodyPostM (fenR none) 6 P fn R e a w := by
  have h : LeavesInM (fenR none) 6 P fn a.tmps R a.defers .returning w := by
    rw [hd]
    have hK1' : (w.putObj D2 (.deferred none)).heap[D1]? = some (.deferred (some [])) := (World.putObj_heap_other hne).trans hK1
    exact ⟨by simp, .inl ⟨D2, _, rfl, run_takeDeferred hK2, by simp, .inl ⟨D1, _, rfl, run_takeDeferred hK1', v, hv, hR⟩⟩⟩
  rcases he with rfl | rfl <;> exact h
theorem endM2 (hT : Tab.fine P T) {fn : Func} {R : Ending → World → Prop} {t : Nat → TV} {m : Mem} {e : Exit} {v : Value} (X1 D1 X2 D2 : Nat) (he : e = .ret ∨ e = .normal) (hdf : E.dfr = [markD D2, markD D1]) (hD1 : E.w0.heap.size ≤ D1) (hD2 : E.w0.heap.size ≤ D2) (hlt : D1 < D2)
    (hX1 : m X1 = some (.say (· = D1) fun w1 => w1.heap[D1]? = some (.deferred (some [])))) (hX2 : m X2 = some (.say (· = D2) fun w1 => w1.heap[D2]? = some (.deferred (some []))))
    (hv : resP T ⟨t, shutM m⟩ fn.results.toList = .mk v) (hR : ∀ w', Fr E.w0 (E.bor.map (·.2)) w' → R (.returned v) w') : QR E (bodyPostM (fenR none) 6 P fn R) e ⟨t, m⟩ := by
  intro ρ a w hs
  have k1 := (hs.mem.ok X1 _ hX1).1
  have k2 := (hs.mem.ok X2 _ hX2).1
  have h2 := hs.shutAll (.deferred none) hD2 hX2
  -- the other mark: the same state, told again
  have h3 : Sat E ρ ⟨t, shutM m⟩ a ((w.putObj D2 (.deferred none)).putObj D1 (.deferred none)) := by
    have hown : ∀ z b, shutM m z = some b → b.own → (ρ z).1 ≠ D1 := by
      intro z b hz hb
      have : m z = some b := by
        unfold shutM at hz
        split at hz
        · injection hz with hz; rw [← hz] at hb; exact hb.elim
        · injection hz with hz; rw [← hz] at hb; exact hb.elim
        · exact hz
      have hzX : z ≠ X1 := fun e => by rw [e, hX1] at this; injection this with this; rw [← this] at hb; exact hb.elim
      exact hs.mem.ne z X1 b _ this hX1 hb trivial hzX
    refine h2.remem0 (h2.mem.swap (h2.mem.fr.putObj (.inl hD1) _) (by simp) (fun z hz => hz) fun z b hz => ?_) fun z hz => hz
    by_cases hb : b.own
    · refine .inl ⟨hz, fun k hl hk => World.putObj_heap_other ?_⟩
      have : k = (ρ z).1 := (Blk.own_hits hb).1 hk
      rintro rfl
      exact hown z b hz hb this.symm
    · unfold shutM at hz
      split at hz
      · injection hz with hz
        exact .inr (.inl ⟨_, _, hz.symm, trivial, (fun k hk => hk.elim), (fun _ _ _ _ _ => trivial), fun y c hy hc ho hk => hk⟩)
      · injection hz with hz; exact .inr (.inr ⟨_, _, hz.symm⟩)
      · rename_i g1 g2
        exact absurd (by cases b <;> first
          | trivial
          | (exact absurd hz (g1 _ _))
          | (exact absurd hz (g2 _ _ _))) hb
  exact marks_end2 he (by rw [hs.df, hdf]) k2 k1 (by omega) (results_run hT h3 hv) (hR _ h3.mem.fr)
theorem endM0 (hT : Tab.fine P T) {fn : Func} {R : Ending → World → Prop} {t : Nat → TV} {m : Mem} {e : Exit} {v : Value} (he : e = .ret ∨ e = .normal) (hdf : E.dfr = []) (hv : resP T ⟨t, m⟩ fn.results.toList = .mk v) (hR : ∀ w', Fr E.w0 (E.bor.map (·.2)) w' → R (.returned v) w') : QR E (bodyPostM (fenR none) 6 P fn R) e ⟨t, m⟩ := by
  intro ρ a w hs
  have h : LeavesInM (fenR none) 6 P fn a.tmps R a.defers .returning w := by
    rw [hs.df, hdf]
    exact ⟨v, results_run hT hs hv, hR _ hs.mem.fr⟩
  rcases he with rfl | rfl <;> exact h
theorem enterGR {f : FuncId} {fn : Func} {c : Code} {args : Array Value} {w : World} {R : Ending → World → Prop} (L : List Nat) (avs : List AV) (ml : List (Nat × Blk)) (hf : P.funcs[f]? = some fn) (hb : fn.body = some c) (N : Nat) (hN : fn.ntmps = N) (hargs : args = (avs.map (AV.conc fun _ => (0, 0))).toArray)
    (hl : Nat.ble avs.length N = true) (hc : allCn avs) (hm : mlOK 1000 L w ml) (h : GR P ⟨w, borT 1000 L, N, none, []⟩ (bodyPostM (fenR none) 6 P fn R) c ⟨argsT avs, lkM ml⟩) : Calls P f args w R :=
  enterRaw L avs ml hf hb N hN hargs hl hc hm fun ρ a hs => h ρ a w hs
end
end Go.Sx
/- Top: roots of whole numbers. -/
set_option linter.unusedVariables false
set_option linter.unusedSimpArgs false
set_option maxRecDepth 8000
set_option maxHeartbeats 1000000
namespace Go.Proofs.YtphipfmidfoflaaGreat
open Go.Sx Go.RowKit
/-- the root's bits, from the k-th downwards -/
def rtGo (n : Nat) : Nat → Nat → Nat
  | 0, low => low
  | k + 1, low => if (low + 2 ^ k) * (low + 2 ^ k) ≤ n then rtGo n k (low + 2 ^ k) else rtGo n k low
def rtN (n : Nat) : Nat := rtGo n 31 0
def rtM (n : Int) : Int := (rtN n.toNat : Nat)
theorem rtGo_spec {n : Nat} : ∀ k low, low * low ≤ n → n < (low + 2 ^ k) * (low + 2 ^ k) → rtGo n k low * rtGo n k low ≤ n ∧ n < (rtGo n k low + 1) * (rtGo n k low + 1)
  | 0, low, h1, h2 => ⟨h1, by simpa [rtGo] using h2⟩
  | k + 1, low, h1, h2 => by
    unfold rtGo
    split
    · rename_i h
      refine rtGo_spec k _ h ?_
      rw [Nat.pow_succ] at h2
      rw [show low + 2 ^ k + 2 ^ k = low + 2 ^ k * 2 by omega]
      exact h2
    · rename_i h
      exact rtGo_spec k _ h1 (by omega)
theorem rtM_spec {n : Int} (h0 : 0 ≤ n) (h1 : n < 4611686018427387904) : 0 ≤ rtM n ∧ rtM n * rtM n ≤ n ∧ n < (rtM n + 1) * (rtM n + 1) := by
  obtain ⟨a, rfl⟩ := Int.eq_ofNat_of_zero_le h0
  have := rtGo_spec (n := a) 31 0 (Nat.zero_le _) (by simp; omega)
  unfold rtM rtN
  rw [Int.toNat_natCast]
  refine ⟨Int.natCast_nonneg _, by exact_mod_cast this.1, by exact_mod_cast this.2⟩
theorem root_of_any (n : Int) (w : World) (h0 : 0 ≤ n) (h1 : n < 4611686018427387904) : Calls Tryz.prog 152 #[I n] w fun e w' => e = .returned (I (rtM n)) ∧ Below w.heap.size w w' := by
  obtain ⟨a, rfl⟩ := Int.eq_ofNat_of_zero_le h0
  refine enterPlain tfine Tryz.func152 rfl 22 Tryz.ntmps152 [.c (.k (I a))] [] rfl rfl trivial ⟨trivial, trivial⟩ ?_
  refine G.seqR tfine rfl trivial (G.scope rfl ?_)
  refine G.seqR tfine rfl trivial ?_
  refine G.seq (G.label ?_)
  refine G.seq (G.block (G.loop (fun p : Nat × Nat => St.of [(0, .v (.c (.k (I a)))), (3, .v (.c (.k (I p.2)))), (4, .v (.c (.k (I (p.2 + 2 ^ p.1 : Nat)))))] [])
    (fun p => p.1 ≤ 31 ∧ p.2 + 2 ^ p.1 ≤ 2147483648 ∧ rtN a = rtGo a p.1 p.2) (fun p => p.1) (31, 0) ⟨Nat.le_refl _, by decide, rfl⟩ (St.le_of rfl trivial ⟨rfl, rfl, rfl, trivial⟩) ?_))
  rintro ⟨k, low⟩ ⟨hk, hb, hr⟩
  simp only at hk hb hr
  have hp : 0 < 2 ^ k := Nat.two_pow_pos k
  have e1 : IntKind.i64.wrap (((low + 2 ^ k : Nat) : Int) - (low : Int)) = ((2 ^ k : Nat) : Int) := by rw [show ((low + 2 ^ k : Nat) : Int) - (low : Int) = ((2 ^ k : Nat) : Int) by push_cast; omega]; exact IntWalk.i64_in _ (by omega)
  refine G.block ?_
  refine G.seq ?_
  refine G.seq ?_
  refine G.reg tfine rfl trivial ?_
  refine G.cond (b := IntKind.i64.wrap (((low + 2 ^ k : Nat) : Int) - (low : Int)) == 1) rfl (fun h => ?_) (fun h => ?_)
  · rw [e1] at h
    have h : ((2 ^ k : Nat) : Int) = 1 := by simpa using h
    have hk0 : k = 0 := by
      cases k with
      | zero => rfl
      | succ k => rw [Nat.pow_succ] at h; omega
    subst hk0
    refine G.exit ?_
    refine G.seqR tfine rfl trivial ?_
    refine G.ret (endK.ret rfl ?_)
    show I (low : Int) = I (rtM a)
    rw [rtM, Int.toNat_natCast, hr]
    rfl
  rw [e1] at h
  have h : ¬ ((2 ^ k : Nat) : Int) = 1 := by simpa using h
  obtain ⟨j, rfl⟩ : ∃ j, k = j + 1 := by
    cases k with
    | zero => exact absurd rfl h
    | succ k => exact ⟨k, rfl⟩
  have hpj : 0 < 2 ^ j := Nat.two_pow_pos j
  have hps : 2 ^ (j + 1) = 2 ^ j + 2 ^ j := by rw [Nat.pow_succ]; omega
  rw [hps] at hb
  have e2 : IntKind.i64.wrap ((IntKind.i64.wrap ((low : Int) + ((low + 2 ^ (j + 1) : Nat) : Int))).tdiv 2) = ((low + 2 ^ j : Nat) : Int) := by
    rw [hps, IntWalk.i64_in ((low : Int) + ((low + (2 ^ j + 2 ^ j) : Nat) : Int)) (by omega), show ((low : Int) + ((low + (2 ^ j + 2 ^ j) : Nat) : Int)) = 2 * ((low + 2 ^ j : Nat) : Int) by push_cast; omega, Int.mul_tdiv_cancel_left _ (by decide)]
    exact IntWalk.i64_in _ (by omega)
  refine G.skip ?_
  refine G.seqR tfine rfl ⟨by decide, trivial⟩ ?_
  rw [e2]
  have hm0 : ((low + 2 ^ j : Nat) : Int) ≠ 0 := by omega
  refine G.seqR tfine rfl ⟨hm0, trivial⟩ ?_
  have e3 : (((low + 2 ^ j : Nat) : Int) ≤ IntKind.i64.wrap ((a : Int).tdiv ((low + 2 ^ j : Nat) : Int))) ↔ (low + 2 ^ j) * (low + 2 ^ j) ≤ a := by
    have hd := Nat.div_le_self a (low + 2 ^ j)
    rw [← Int.ofNat_tdiv]
    generalize hq : a / (low + 2 ^ j) = q at *
    rw [IntWalk.i64_in _ (by omega), Int.ofNat_le, ← hq, Nat.le_div_iff_mul_le (by omega)]
  rw [rtGo] at hr
  refine G.cond (b := decide (((low + 2 ^ j : Nat) : Int) ≤ IntKind.i64.wrap ((a : Int).tdiv ((low + 2 ^ j : Nat) : Int)))) rfl (fun h2 => ?_) (fun h2 => ?_)
  · have h2 := e3.1 (of_decide_eq_true h2)
    rw [if_pos h2] at hr
    refine G.reg tfine rfl trivial ?_
    refine ⟨(j, low + 2 ^ j), ⟨by omega, by show low + 2 ^ j + 2 ^ j ≤ _; omega, hr⟩, (by show j < j + 1; omega), St.le_of rfl trivial ⟨rfl, rfl, ?_, trivial⟩⟩
    show TV.v (.c (.k (I ((low + 2 ^ (j + 1) : Nat) : Int)))) = _
    rw [hps, Nat.add_assoc]
  · have h2 := fun h => of_decide_eq_false h2 (e3.2 h)
    rw [if_neg h2] at hr
    refine G.reg tfine rfl trivial ?_
    exact ⟨(j, low), ⟨by omega, by show low + 2 ^ j ≤ _; omega, hr⟩, (by show j < j + 1; omega), St.le_of rfl trivial ⟨rfl, rfl, rfl, trivial⟩⟩
end Go.Proofs.YtphipfmidfoflaaGreat
/- Top: roots, chords, strips: what they compute. -/
set_option linter.unusedVariables false
set_option linter.unusedSimpArgs false
set_option maxRecDepth 8000
set_option maxHeartbeats 1000000
namespace Go.Proofs.YtphipfmidfoflaaGreat
open Go.Sx Go.RowKit
def root_both (x0 : Int) : Int × Int := if ((IntKind.i64.wrap ((rtM x0) * (rtM x0))) == x0) = true then (rtM x0, rtM x0) else (rtM x0, IntKind.i64.wrap ((rtM x0) + (1 : Int)))
theorem root_both_any (x0 : Int) (w : World) (g0 : 0 ≤ x0) (g1 : x0 < 4611686018427387904) : Calls Tryz.prog 151 #[I x0] w fun e w' => e = .returned (.agg #[I ((root_both x0).1), I ((root_both x0).2)]) ∧ Below w.heap.size w w' := by
  refine enterPlain tfine Tryz.func151 rfl 18 Tryz.ntmps151 [.c (.k (I x0))] [] rfl rfl trivial ⟨trivial, trivial⟩ ?_
  refine G.seqR tfine rfl ?_ ?_
  · first | trivial | (simp [AllP, condB]; done) | (simp only [AllP]; and_intros <;> first | trivial | decide | omega) | (simp [AllP, condB]; intros; and_intros <;> first | assumption | omega) | (simp [AllP, condB]; intros; simp_all; done) | (simp [AllP, condB]; intros; simp_all; omega) | (simp [AllP, condB]; omega)
  refine G.seqC tfine rfl ?_ ?_
  · first | trivial | (simp [AllP, condB]; done) | (simp only [AllP]; and_intros <;> first | trivial | decide | omega) | (simp [AllP, condB]; intros; and_intros <;> first | assumption | omega) | (simp [AllP, condB]; intros; simp_all; done) | (simp [AllP, condB]; intros; simp_all; omega) | (simp [AllP, condB]; omega)
  refine GO.callPlain (v := I (rtM x0))  rfl rfl rfl rfl (fun args w => Tryz.call152 args w) (fun ρ w hs hok => root_of_any _ w g0 g1) ?_
  refine GO.fin tfine rfl ?_ ?_
  · first | trivial | (simp [AllP, condB]; done) | (simp only [AllP]; and_intros <;> first | trivial | decide | omega) | (simp [AllP, condB]; intros; and_intros <;> first | assumption | omega) | (simp [AllP, condB]; intros; simp_all; done) | (simp [AllP, condB]; intros; simp_all; omega) | (simp [AllP, condB]; omega)
  refine G.seq ?_
  refine G.seqR tfine rfl ?_ ?_
  · first | trivial | (simp [AllP, condB]; done) | (simp only [AllP]; and_intros <;> first | trivial | decide | omega) | (simp [AllP, condB]; intros; and_intros <;> first | assumption | omega) | (simp [AllP, condB]; intros; simp_all; done) | (simp [AllP, condB]; intros; simp_all; omega) | (simp [AllP, condB]; omega)
  refine G.cond (b := (IntKind.i64.wrap ((rtM x0) * (rtM x0))) == x0) rfl (fun h1 => ?_) (fun h1 => ?_)
  · refine G.seqR tfine rfl ?_ ?_
    · first | trivial | (simp [AllP, condB]; done) | (simp only [AllP]; and_intros <;> first | trivial | decide | omega) | (simp [AllP, condB]; intros; and_intros <;> first | assumption | omega) | (simp [AllP, condB]; intros; simp_all; done) | (simp [AllP, condB]; intros; simp_all; omega) | (simp [AllP, condB]; omega)
    refine G.ret (endK.ret rfl ?_)
    first | (rw [root_both, if_pos h1]; done) | (rw [root_both, if_pos h1]; rfl)
  refine G.skip ?_
  refine G.seqR tfine rfl ?_ ?_
  · first | trivial | (simp [AllP, condB]; done) | (simp only [AllP]; and_intros <;> first | trivial | decide | omega) | (simp [AllP, condB]; intros; and_intros <;> first | assumption | omega) | (simp [AllP, condB]; intros; simp_all; done) | (simp [AllP, condB]; intros; simp_all; omega) | (simp [AllP, condB]; omega)
  refine G.ret (endK.ret rfl ?_)
  first | (rw [root_both, if_neg (fne h1)]; done) | (rw [root_both, if_neg (fne h1)]; rfl)
theorem half_arg {x0 x1 : Int} (h1 : ((((decide (x0 < (0 : Int))) || (decide (x0 > (100000 : Int)))) || (decide (x1 < (-100000 : Int)))) || (decide (x1 > (100000 : Int)))) = false) (h2 : ((decide (x1 > x0)) || (decide ((IntKind.i64.wrap (0 - x1)) > x0))) = false) :
    0 ≤ IntKind.i64.wrap ((IntKind.i64.wrap (x0 * x0)) - (IntKind.i64.wrap (x1 * x1))) ∧ IntKind.i64.wrap ((IntKind.i64.wrap (x0 * x0)) - (IntKind.i64.wrap (x1 * x1))) < 4611686018427387904 := by
  simp only [Bool.or_eq_false_iff, decide_eq_false_iff_not] at h1 h2
  rw [IntWalk.i64_in (0 - x1) (by omega)] at h2
  have a : x0 * x0 ≤ 10000000000 := by
    have := Int.mul_le_mul (show x0 ≤ 100000 by omega) (show x0 ≤ 100000 by omega) (by omega) (by decide)
    omega
  have b : 0 ≤ x1 * x1 := by
    rcases Int.le_total 0 x1 with h | h
    · exact Int.mul_nonneg h h
    · have := Int.mul_nonneg (show 0 ≤ -x1 by omega) (show 0 ≤ -x1 by omega)
      rwa [Int.neg_mul_neg] at this
  have c : x1 * x1 ≤ x0 * x0 := by
    rcases Int.le_total 0 x1 with h | h
    · exact Int.mul_le_mul (by omega) (by omega) h (by omega)
    · have := Int.mul_le_mul (show -x1 ≤ x0 by omega) (show -x1 ≤ x0 by omega) (by omega) (by omega)
      rwa [Int.neg_mul_neg] at this
  rw [IntWalk.i64_in (x0 * x0) (by omega), IntWalk.i64_in (x1 * x1) (by omega), IntWalk.i64_in _ (by omega)]
  omega
def root_Half (x0 : Int) (x1 : Int) : Int × Int × Int := if ((((decide (x0 < (0 : Int))) || (decide (x0 > (100000 : Int)))) || (decide (x1 < (-100000 : Int)))) || (decide (x1 > (100000 : Int)))) = true then ((0 : Int), (0 : Int), (2 : Int)) else if ((decide (x1 > x0)) || (decide ((IntKind.i64.wrap (0 - x1)) > x0))) = true then ((0 : Int), (0 : Int), (0 : Int)) else ((root_both (IntKind.i64.wrap ((IntKind.i64.wrap (x0 * x0)) - (IntKind.i64.wrap (x1 * x1))))).1, (root_both (IntKind.i64.wrap ((IntKind.i64.wrap (x0 * x0)) - (IntKind.i64.wrap (x1 * x1))))).2, (0 : Int))
theorem root_Half_any (x0 : Int) (x1 : Int) (w : World) : Calls Tryz.prog 150 #[I x0, I x1] w fun e w' => e = .returned (.tuple #[.agg #[I ((root_Half x0 x1).1), I ((root_Half x0 x1).2.1)], I ((root_Half x0 x1).2.2)]) ∧ Below w.heap.size w w' := by
  refine enterPlain tfine Tryz.func150 rfl 39 Tryz.ntmps150 [.c (.k (I x0)), .c (.k (I x1))] [] rfl rfl trivial ⟨trivial, trivial, trivial⟩ ?_
  refine G.seqR tfine rfl ?_ ?_
  · first | trivial | (simp [AllP, condB]; done) | (simp only [AllP]; and_intros <;> first | trivial | decide | omega) | (simp [AllP, condB]; intros; and_intros <;> first | assumption | omega) | (simp [AllP, condB]; intros; simp_all; done) | (simp [AllP, condB]; intros; simp_all; omega) | (simp [AllP, condB]; omega)
  refine G.seq ?_
  refine G.seqR tfine rfl ?_ ?_
  · first | trivial | (simp [AllP, condB]; done) | (simp only [AllP]; and_intros <;> first | trivial | decide | omega) | (simp [AllP, condB]; intros; and_intros <;> first | assumption | omega) | (simp [AllP, condB]; intros; simp_all; done) | (simp [AllP, condB]; intros; simp_all; omega) | (simp [AllP, condB]; omega)
  refine G.cond (b := (((decide (x0 < (0 : Int))) || (decide (x0 > (100000 : Int)))) || (decide (x1 < (-100000 : Int)))) || (decide (x1 > (100000 : Int)))) rfl (fun h1 => ?_) (fun h1 => ?_)
  · refine G.seqR tfine rfl ?_ ?_
    · first | trivial | (simp [AllP, condB]; done) | (simp only [AllP]; and_intros <;> first | trivial | decide | omega) | (simp [AllP, condB]; intros; and_intros <;> first | assumption | omega) | (simp [AllP, condB]; intros; simp_all; done) | (simp [AllP, condB]; intros; simp_all; omega) | (simp [AllP, condB]; omega)
    refine G.ret (endK.ret rfl ?_)
    first | (rw [root_Half, if_pos h1]; done) | (rw [root_Half, if_pos h1]; rfl)
  refine G.skip ?_
  refine G.seq ?_
  refine G.seqR tfine rfl ?_ ?_
  · first | trivial | (simp [AllP, condB]; done) | (simp only [AllP]; and_intros <;> first | trivial | decide | omega) | (simp [AllP, condB]; intros; and_intros <;> first | assumption | omega) | (simp [AllP, condB]; intros; simp_all; done) | (simp [AllP, condB]; intros; simp_all; omega) | (simp [AllP, condB]; omega)
  refine G.cond (b := (decide (x1 > x0)) || (decide ((IntKind.i64.wrap (0 - x1)) > x0))) rfl (fun h2 => ?_) (fun h2 => ?_)
  · refine G.seqR tfine rfl ?_ ?_
    · first | trivial | (simp [AllP, condB]; done) | (simp only [AllP]; and_intros <;> first | trivial | decide | omega) | (simp [AllP, condB]; intros; and_intros <;> first | assumption | omega) | (simp [AllP, condB]; intros; simp_all; done) | (simp [AllP, condB]; intros; simp_all; omega) | (simp [AllP, condB]; omega)
    refine G.ret (endK.ret rfl ?_)
    first | (rw [root_Half, if_neg (fne h1), if_pos h2]; done) | (rw [root_Half, if_neg (fne h1), if_pos h2]; rfl)
  refine G.skip ?_
  refine G.seqC tfine rfl ?_ ?_
  · first | trivial | (simp [AllP, condB]; done) | (simp only [AllP]; and_intros <;> first | trivial | decide | omega) | (simp [AllP, condB]; intros; and_intros <;> first | assumption | omega) | (simp [AllP, condB]; intros; simp_all; done) | (simp [AllP, condB]; intros; simp_all; omega) | (simp [AllP, condB]; omega)
  refine GO.callPlain (v := .agg #[I ((root_both (IntKind.i64.wrap ((IntKind.i64.wrap (x0 * x0)) - (IntKind.i64.wrap (x1 * x1))))).1), I ((root_both (IntKind.i64.wrap ((IntKind.i64.wrap (x0 * x0)) - (IntKind.i64.wrap (x1 * x1))))).2)])  rfl rfl rfl rfl (fun args w => Tryz.call151 args w) (fun ρ w hs hok => root_both_any _ w (half_arg h1 h2).1 (half_arg h1 h2).2) ?_
  refine GO.fin tfine rfl ?_ ?_
  · first | trivial | (simp [AllP, condB]; done) | (simp only [AllP]; and_intros <;> first | trivial | decide | omega) | (simp [AllP, condB]; intros; and_intros <;> first | assumption | omega) | (simp [AllP, condB]; intros; simp_all; done) | (simp [AllP, condB]; intros; simp_all; omega) | (simp [AllP, condB]; omega)
  refine G.ret (endK.ret rfl ?_)
  first | (rw [root_Half, if_neg (fne h1), if_neg (fne h2)]; done) | (rw [root_Half, if_neg (fne h1), if_neg (fne h2)]; rfl)
def root_Chord (x0 : Int) (x1 : Int) : Int × Int × Int := (IntKind.i64.wrap ((2 : Int) * ((root_Half x0 x1).1)), IntKind.i64.wrap ((2 : Int) * ((root_Half x0 x1).2.1)), (root_Half x0 x1).2.2)
theorem root_Chord_any (x0 : Int) (x1 : Int) (w : World) : Calls Tryz.prog 143 #[I x0, I x1] w fun e w' => e = .returned (.tuple #[.agg #[I ((root_Chord x0 x1).1), I ((root_Chord x0 x1).2.1)], I ((root_Chord x0 x1).2.2)]) ∧ Below w.heap.size w w' := by
  refine enterPlain tfine Tryz.func143 rfl 22 Tryz.ntmps143 [.c (.k (I x0)), .c (.k (I x1))] [] rfl rfl trivial ⟨trivial, trivial, trivial⟩ ?_
  refine G.seqR tfine rfl ?_ ?_
  · first | trivial | (simp [AllP, condB]; done) | (simp only [AllP]; and_intros <;> first | trivial | decide | omega) | (simp [AllP, condB]; intros; and_intros <;> first | assumption | omega) | (simp [AllP, condB]; intros; simp_all; done) | (simp [AllP, condB]; intros; simp_all; omega) | (simp [AllP, condB]; omega)
  refine G.seqC tfine rfl ?_ ?_
  · first | trivial | (simp [AllP, condB]; done) | (simp only [AllP]; and_intros <;> first | trivial | decide | omega) | (simp [AllP, condB]; intros; and_intros <;> first | assumption | omega) | (simp [AllP, condB]; intros; simp_all; done) | (simp [AllP, condB]; intros; simp_all; omega) | (simp [AllP, condB]; omega)
  refine GO.callPlain (v := .tuple #[.agg #[I ((root_Half x0 x1).1), I ((root_Half x0 x1).2.1)], I ((root_Half x0 x1).2.2)])  rfl rfl rfl rfl (fun args w => Tryz.call150 args w) (fun ρ w hs hok => root_Half_any _ _ w) ?_
  refine GO.fin tfine rfl ?_ ?_
  · first | trivial | (simp [AllP, condB]; done) | (simp only [AllP]; and_intros <;> first | trivial | decide | omega) | (simp [AllP, condB]; intros; and_intros <;> first | assumption | omega) | (simp [AllP, condB]; intros; simp_all; done) | (simp [AllP, condB]; intros; simp_all; omega) | (simp [AllP, condB]; omega)
  refine G.seqR tfine rfl ?_ ?_
  · first | trivial | (simp [AllP, condB]; done) | (simp only [AllP]; and_intros <;> first | trivial | decide | omega) | (simp [AllP, condB]; intros; and_intros <;> first | assumption | omega) | (simp [AllP, condB]; intros; simp_all; done) | (simp [AllP, condB]; intros; simp_all; omega) | (simp [AllP, condB]; omega)
  refine G.ret (endK.ret rfl ?_)
  first | (rw [root_Chord]; done) | (rw [root_Chord]; rfl)
def segment_measure (x0 : Int) : Bool := ((decide (x0 ≥ (0 : Int))) && (decide (x0 ≤ (100000 : Int))))
theorem segment_measure_any (x0 : Int) (w : World) : Calls Tryz.prog 33 #[I x0] w fun e w' => e = .returned (.bool (segment_measure x0)) ∧ Below w.heap.size w w' := by
  refine enterPlain tfine Tryz.func33 rfl 9 Tryz.ntmps33 [.c (.k (I x0))] [] rfl rfl trivial ⟨trivial, trivial⟩ ?_
  refine G.seqR tfine rfl ?_ ?_
  · first | trivial | (simp [AllP, condB]; done) | (simp only [AllP]; and_intros <;> first | trivial | decide | omega) | (simp [AllP, condB]; intros; and_intros <;> first | assumption | omega) | (simp [AllP, condB]; intros; simp_all; done) | (simp [AllP, condB]; intros; simp_all; omega) | (simp [AllP, condB]; omega)
  refine G.seqR tfine rfl ?_ ?_
  · first | trivial | (simp [AllP, condB]; done) | (simp only [AllP]; and_intros <;> first | trivial | decide | omega) | (simp [AllP, condB]; intros; and_intros <;> first | assumption | omega) | (simp [AllP, condB]; intros; simp_all; done) | (simp [AllP, condB]; intros; simp_all; omega) | (simp [AllP, condB]; omega)
  refine G.ret (endK.ret rfl ?_)
  first | (rw [segment_measure]; done) | (rw [segment_measure]; rfl)
def segment_circle__chord (x0_0 : Int) (x0_1 : Int) (x1 : Int) : Int × Int := if ((decide ((IntKind.i64.wrap (x1 - x0_1)) > x0_0)) || (decide ((IntKind.i64.wrap (0 - (IntKind.i64.wrap (x1 - x0_1)))) > x0_0))) = true then ((0 : Int), (0 : Int)) else ((root_Chord x0_0 (IntKind.i64.wrap (x1 - x0_1))).1, (root_Chord x0_0 (IntKind.i64.wrap (x1 - x0_1))).2.1)
theorem segment_circle__chord_any (x0_0 : Int) (x0_1 : Int) (x1 : Int) (w : World) : Calls Tryz.prog 132 #[.agg #[I x0_0, I x0_1], I x1] w fun e w' => e = .returned (.agg #[I ((segment_circle__chord x0_0 x0_1 x1).1), I ((segment_circle__chord x0_0 x0_1 x1).2)]) ∧ Below w.heap.size w w' := by
  refine enterPlain tfine Tryz.func132 rfl 32 Tryz.ntmps132 [.agg [.k (I x0_0), .k (I x0_1)], .c (.k (I x1))] [] rfl rfl trivial ⟨⟨trivial, trivial, trivial⟩, trivial, trivial⟩ ?_
  refine G.seqR tfine rfl ?_ ?_
  · first | trivial | (simp [AllP, condB]; done) | (simp only [AllP]; and_intros <;> first | trivial | decide | omega) | (simp [AllP, condB]; intros; and_intros <;> first | assumption | omega) | (simp [AllP, condB]; intros; simp_all; done) | (simp [AllP, condB]; intros; simp_all; omega) | (simp [AllP, condB]; omega)
  refine G.seqR tfine rfl ?_ ?_
  · first | trivial | (simp [AllP, condB]; done) | (simp only [AllP]; and_intros <;> first | trivial | decide | omega) | (simp [AllP, condB]; intros; and_intros <;> first | assumption | omega) | (simp [AllP, condB]; intros; simp_all; done) | (simp [AllP, condB]; intros; simp_all; omega) | (simp [AllP, condB]; omega)
  refine G.seq ?_
  refine G.seqR tfine rfl ?_ ?_
  · first | trivial | (simp [AllP, condB]; done) | (simp only [AllP]; and_intros <;> first | trivial | decide | omega) | (simp [AllP, condB]; intros; and_intros <;> first | assumption | omega) | (simp [AllP, condB]; intros; simp_all; done) | (simp [AllP, condB]; intros; simp_all; omega) | (simp [AllP, condB]; omega)
  refine G.cond (b := (decide ((IntKind.i64.wrap (x1 - x0_1)) > x0_0)) || (decide ((IntKind.i64.wrap (0 - (IntKind.i64.wrap (x1 - x0_1)))) > x0_0))) rfl (fun h1 => ?_) (fun h1 => ?_)
  · refine G.seqR tfine rfl ?_ ?_
    · first | trivial | (simp [AllP, condB]; done) | (simp only [AllP]; and_intros <;> first | trivial | decide | omega) | (simp [AllP, condB]; intros; and_intros <;> first | assumption | omega) | (simp [AllP, condB]; intros; simp_all; done) | (simp [AllP, condB]; intros; simp_all; omega) | (simp [AllP, condB]; omega)
    refine G.ret (endK.ret rfl ?_)
    first | (rw [segment_circle__chord, if_pos h1]; done) | (rw [segment_circle__chord, if_pos h1]; rfl)
  refine G.skip ?_
  refine G.seqC tfine rfl ?_ ?_
  · first | trivial | (simp [AllP, condB]; done) | (simp only [AllP]; and_intros <;> first | trivial | decide | omega) | (simp [AllP, condB]; intros; and_intros <;> first | assumption | omega) | (simp [AllP, condB]; intros; simp_all; done) | (simp [AllP, condB]; intros; simp_all; omega) | (simp [AllP, condB]; omega)
  refine GO.callPlain (v := .tuple #[.agg #[I ((root_Chord x0_0 (IntKind.i64.wrap (x1 - x0_1))).1), I ((root_Chord x0_0 (IntKind.i64.wrap (x1 - x0_1))).2.1)], I ((root_Chord x0_0 (IntKind.i64.wrap (x1 - x0_1))).2.2)])  rfl rfl rfl rfl (fun args w => Tryz.call143 args w) (fun ρ w hs hok => root_Chord_any _ _ w) ?_
  refine GO.fin tfine rfl ?_ ?_
  · first | trivial | (simp [AllP, condB]; done) | (simp only [AllP]; and_intros <;> first | trivial | decide | omega) | (simp [AllP, condB]; intros; and_intros <;> first | assumption | omega) | (simp [AllP, condB]; intros; simp_all; done) | (simp [AllP, condB]; intros; simp_all; omega) | (simp [AllP, condB]; omega)
  refine G.seqR tfine rfl ?_ ?_
  · first | trivial | (simp [AllP, condB]; done) | (simp only [AllP]; and_intros <;> first | trivial | decide | omega) | (simp [AllP, condB]; intros; and_intros <;> first | assumption | omega) | (simp [AllP, condB]; intros; simp_all; done) | (simp [AllP, condB]; intros; simp_all; omega) | (simp [AllP, condB]; omega)
  refine G.ret (endK.ret rfl ?_)
  first | (rw [segment_circle__chord, if_neg (fne h1)]; done) | (rw [segment_circle__chord, if_neg (fne h1)]; rfl)
def segment_circle__strip (x0_0 : Int) (x0_1 : Int) (x1 : Int) (x2 : Int) : Int × Int := if ((decide (x1 ≤ x0_1)) && (decide (x0_1 ≤ x2))) = true then (IntKind.i64.wrap ((IntKind.i64.wrap (x2 - x1)) * (if ((segment_circle__chord x0_0 x0_1 x2).1) < ((segment_circle__chord x0_0 x0_1 x1).1) then ((segment_circle__chord x0_0 x0_1 x2).1) else ((segment_circle__chord x0_0 x0_1 x1).1))), IntKind.i64.wrap ((IntKind.i64.wrap (x2 - x1)) * (IntKind.i64.wrap ((2 : Int) * x0_0)))) else (IntKind.i64.wrap ((IntKind.i64.wrap (x2 - x1)) * (if ((segment_circle__chord x0_0 x0_1 x2).1) < ((segment_circle__chord x0_0 x0_1 x1).1) then ((segment_circle__chord x0_0 x0_1 x2).1) else ((segment_circle__chord x0_0 x0_1 x1).1))), IntKind.i64.wrap ((IntKind.i64.wrap (x2 - x1)) * (if ((segment_circle__chord x0_0 x0_1 x2).2) > ((segment_circle__chord x0_0 x0_1 x1).2) then ((segment_circle__chord x0_0 x0_1 x2).2) else ((segment_circle__chord x0_0 x0_1 x1).2))))
theorem segment_circle__strip_any (x0_0 : Int) (x0_1 : Int) (x1 : Int) (x2 : Int) (w : World) : Calls Tryz.prog 113 #[.agg #[I x0_0, I x0_1], I x1, I x2] w fun e w' => e = .returned (.agg #[I ((segment_circle__strip x0_0 x0_1 x1 x2).1), I ((segment_circle__strip x0_0 x0_1 x1 x2).2)]) ∧ Below w.heap.size w w' := by
  refine enterPlain tfine Tryz.func113 rfl 49 Tryz.ntmps113 [.agg [.k (I x0_0), .k (I x0_1)], .c (.k (I x1)), .c (.k (I x2))] [] rfl rfl trivial ⟨⟨trivial, trivial, trivial⟩, trivial, trivial, trivial⟩ ?_
  refine G.seqR tfine rfl ?_ ?_
  · first | trivial | (simp [AllP, condB]; done) | (simp only [AllP]; and_intros <;> first | trivial | decide | omega) | (simp [AllP, condB]; intros; and_intros <;> first | assumption | omega) | (simp [AllP, condB]; intros; simp_all; done) | (simp [AllP, condB]; intros; simp_all; omega) | (simp [AllP, condB]; omega)
  refine G.seqDraw hmix [0, 0, 3, 0, 0, 31, 0, 0, 255, 511] [(8, 7), (9, 8)] rfl rfl rfl ?_
  refine GD.more tfine 0 rfl rfl ?_ ?_
  · first | trivial | (simp [AllP, condB]; done) | (simp only [AllP]; and_intros <;> first | trivial | decide | omega) | (simp [AllP, condB]; intros; and_intros <;> first | assumption | omega) | (simp [AllP, condB]; intros; simp_all; done) | (simp [AllP, condB]; intros; simp_all; omega) | (simp [AllP, condB]; omega)
  refine GD.call (v := .agg #[I ((segment_circle__chord x0_0 x0_1 x1).1), I ((segment_circle__chord x0_0 x0_1 x1).2)]) 2 rfl rfl rfl rfl rfl (fun args w => Tryz.call132 args w) (fun m hle ρ w hs hok => segment_circle__chord_any _ _ _ w) ?_
  refine GD.more tfine 3 rfl rfl ?_ ?_
  · first | trivial | (simp [AllP, condB]; done) | (simp only [AllP]; and_intros <;> first | trivial | decide | omega) | (simp [AllP, condB]; intros; and_intros <;> first | assumption | omega) | (simp [AllP, condB]; intros; simp_all; done) | (simp [AllP, condB]; intros; simp_all; omega) | (simp [AllP, condB]; omega)
  refine GD.call (v := .agg #[I ((segment_circle__chord x0_0 x0_1 x2).1), I ((segment_circle__chord x0_0 x0_1 x2).2)]) 5 rfl rfl rfl rfl rfl (fun args w => Tryz.call132 args w) (fun m hle ρ w hs hok => segment_circle__chord_any _ _ _ w) ?_
  refine GD.fin tfine 6 rfl rfl ?_ ?_
  · first | trivial | (simp [AllP, condB]; done) | (simp only [AllP]; and_intros <;> first | trivial | decide | omega) | (simp [AllP, condB]; intros; and_intros <;> first | assumption | omega) | (simp [AllP, condB]; intros; simp_all; done) | (simp [AllP, condB]; intros; simp_all; omega) | (simp [AllP, condB]; omega)
  refine G.seqR tfine rfl ?_ ?_
  · first | trivial | (simp [AllP, condB]; done) | (simp only [AllP]; and_intros <;> first | trivial | decide | omega) | (simp [AllP, condB]; intros; and_intros <;> first | assumption | omega) | (simp [AllP, condB]; intros; simp_all; done) | (simp [AllP, condB]; intros; simp_all; omega) | (simp [AllP, condB]; omega)
  refine G.seq ?_
  refine G.seqR tfine rfl ?_ ?_
  · first | trivial | (simp [AllP, condB]; done) | (simp only [AllP]; and_intros <;> first | trivial | decide | omega) | (simp [AllP, condB]; intros; and_intros <;> first | assumption | omega) | (simp [AllP, condB]; intros; simp_all; done) | (simp [AllP, condB]; intros; simp_all; omega) | (simp [AllP, condB]; omega)
  refine G.cond (b := (decide (x1 ≤ x0_1)) && (decide (x0_1 ≤ x2))) rfl (fun h1 => ?_) (fun h1 => ?_)
  · refine G.reg tfine rfl ?_ ?_
    · first | trivial | (simp [AllP, condB]; done) | (simp only [AllP]; and_intros <;> first | trivial | decide | omega) | (simp [AllP, condB]; intros; and_intros <;> first | assumption | omega) | (simp [AllP, condB]; intros; simp_all; done) | (simp [AllP, condB]; intros; simp_all; omega) | (simp [AllP, condB]; omega)
    refine G.seqR tfine rfl ?_ ?_
    · first | trivial | (simp [AllP, condB]; done) | (simp only [AllP]; and_intros <;> first | trivial | decide | omega) | (simp [AllP, condB]; intros; and_intros <;> first | assumption | omega) | (simp [AllP, condB]; intros; simp_all; done) | (simp [AllP, condB]; intros; simp_all; omega) | (simp [AllP, condB]; omega)
    refine G.ret (endK.ret rfl ?_)
    first | (rw [segment_circle__strip, if_pos h1]; done) | (rw [segment_circle__strip, if_pos h1]; rfl)
  refine G.skip ?_
  refine G.seqR tfine rfl ?_ ?_
  · first | trivial | (simp [AllP, condB]; done) | (simp only [AllP]; and_intros <;> first | trivial | decide | omega) | (simp [AllP, condB]; intros; and_intros <;> first | assumption | omega) | (simp [AllP, condB]; intros; simp_all; done) | (simp [AllP, condB]; intros; simp_all; omega) | (simp [AllP, condB]; omega)
  refine G.ret (endK.ret rfl ?_)
  first | (rw [segment_circle__strip, if_neg (fne h1)]; done) | (rw [segment_circle__strip, if_neg (fne h1)]; rfl)
def profile_measure (x0 : Int) : Bool := ((decide (x0 ≥ (0 : Int))) && (decide (x0 ≤ (100000 : Int))))
theorem profile_measure_any (x0 : Int) (w : World) : Calls Tryz.prog 88 #[I x0] w fun e w' => e = .returned (.bool (profile_measure x0)) ∧ Below w.heap.size w w' := by
  refine enterPlain tfine Tryz.func88 rfl 9 Tryz.ntmps88 [.c (.k (I x0))] [] rfl rfl trivial ⟨trivial, trivial⟩ ?_
  refine G.seqR tfine rfl ?_ ?_
  · first | trivial | (simp [AllP, condB]; done) | (simp only [AllP]; and_intros <;> first | trivial | decide | omega) | (simp [AllP, condB]; intros; and_intros <;> first | assumption | omega) | (simp [AllP, condB]; intros; simp_all; done) | (simp [AllP, condB]; intros; simp_all; omega) | (simp [AllP, condB]; omega)
  refine G.seqR tfine rfl ?_ ?_
  · first | trivial | (simp [AllP, condB]; done) | (simp only [AllP]; and_intros <;> first | trivial | decide | omega) | (simp [AllP, condB]; intros; and_intros <;> first | assumption | omega) | (simp [AllP, condB]; intros; simp_all; done) | (simp [AllP, condB]; intros; simp_all; omega) | (simp [AllP, condB]; omega)
  refine G.ret (endK.ret rfl ?_)
  first | (rw [profile_measure]; done) | (rw [profile_measure]; rfl)
def lying_strips (x0 : Int) : Bool := ((decide (x0 ≥ (1 : Int))) && (decide (x0 ≤ (64 : Int))))
theorem lying_strips_any (x0 : Int) (w : World) : Calls Tryz.prog 55 #[I x0] w fun e w' => e = .returned (.bool (lying_strips x0)) ∧ Below w.heap.size w w' := by
  refine enterPlain tfine Tryz.func55 rfl 9 Tryz.ntmps55 [.c (.k (I x0))] [] rfl rfl trivial ⟨trivial, trivial⟩ ?_
  refine G.seqR tfine rfl ?_ ?_
  · first | trivial | (simp [AllP, condB]; done) | (simp only [AllP]; and_intros <;> first | trivial | decide | omega) | (simp [AllP, condB]; intros; and_intros <;> first | assumption | omega) | (simp [AllP, condB]; intros; simp_all; done) | (simp [AllP, condB]; intros; simp_all; omega) | (simp [AllP, condB]; omega)
  refine G.seqR tfine rfl ?_ ?_
  · first | trivial | (simp [AllP, condB]; done) | (simp only [AllP]; and_intros <;> first | trivial | decide | omega) | (simp [AllP, condB]; intros; and_intros <;> first | assumption | omega) | (simp [AllP, condB]; intros; simp_all; done) | (simp [AllP, condB]; intros; simp_all; omega) | (simp [AllP, condB]; omega)
  refine G.ret (endK.ret rfl ?_)
  first | (rw [lying_strips]; done) | (rw [lying_strips]; rfl)
end Go.Proofs.YtphipfmidfoflaaGreat
/- The symbolic executor, part BD: function values with a bound receiver. Generic over P. -/
set_option linter.unusedVariables false
set_option linter.unusedSimpArgs false
namespace Go.Sx
open Go.RowKit
/-- What a box holds whose content turns in the round that ends the loop. -/
def stopV (go : Nat → Bool) (a b : Value) : Nat → Value
  | 0 => a
  | i + 1 => bif go i then a else b
theorem stopV_go {go : Nat → Bool} {a b : Value} {i : Nat} (h : ∀ j, j < i → go j = true) : stopV go a b i = a := by
  cases i with
  | zero => rfl
  | succ i => rw [stopV, h i (by omega)]; rfl
theorem stopV_yes {go : Nat → Bool} {a b : Value} {i : Nat} (h : go i = true) : stopV go a b (i + 1) = a := by rw [stopV, h]; rfl
theorem stopV_no {go : Nat → Bool} {a b : Value} {i : Nat} (h : go i = false) : stopV go a b (i + 1) = b := by rw [stopV, h]; rfl
def stopW (go : Nat → Bool) (a : Value) (b : Nat → Value) : Nat → Value
  | 0 => a
  | i + 1 => bif go i then a else b i
theorem stopW_go {go : Nat → Bool} {a : Value} {b : Nat → Value} {i : Nat} (h : ∀ j, j < i → go j = true) : stopW go a b i = a := by
  cases i with
  | zero => rfl
  | succ i => rw [stopW, h i (by omega)]; rfl
theorem stopW_yes {go : Nat → Bool} {a : Value} {b : Nat → Value} {i : Nat} (h : go i = true) : stopW go a b (i + 1) = a := by rw [stopW, h]; rfl
theorem stopW_no {go : Nat → Bool} {a : Value} {b : Nat → Value} {i : Nat} (h : go i = false) : stopW go a b (i + 1) = b i := by rw [stopW, h]; rfl
section
variable {P : Program} {E : Env} {K : Exit → St → Prop} {T : Tab} {ops : Array Oper} {rest : List Oper}
theorem GO.makeBound {o : Oper} {f : FuncId} {x : Operand} {t : Nat → TV} {m : Mem} (v : Value) (hg : o.guard = none) (hop : o.op = .makeFunc (.func f) #[x] #[]) (hd : dstOk E.N o.dst = true) (hx : evT t x = toTV v)
    (k : GO P E ops K rest ⟨Sx.putT t o.dst (.v (.c (.k (.func (.func f) #[v] #[])))), m⟩) : GO P E ops K (o :: rest) ⟨t, m⟩ := by
  intro ρ a w hs
  have h1 := hs.eval x
  rw [show St.ev ⟨t, m⟩ x = _ from hx] at h1
  have h2 : a.eval x = v := toTV_val h1
  have hrun : (execOp a.eval o).run P w = .ok (.value (.func (.func f) #[v] #[])) w := by
    simp only [execOp, hop, Instr.makeFunc, List.map_toArray, List.map_nil, List.map_cons, Sem.run_bind, Sem.run_pure, Result.andThen_ok, h2]
  unfold wpL
  rw [if_pos (by simp [Region.wanted, hg])]
  refine .inl ?_
  unfold Oper.wp
  rw [hrun]
  exact k ρ _ _ (hs.putT (dstOk_lt hd) ⟨trivial, rfl⟩)
theorem GR.openSay {Q : Exit → Act → World → Prop} {c : Code} {t : Nat → TV} {m : Mem} (X y d : Nat) {n sz cap : Nat} {A : Option Addr} {el : Nat → List Value} {S : Nat → Prop} {R : World → Prop} (hX : m X = some (.say S R)) (hR : ∀ w, R w → RdRow w A n sz el) (hS : ∀ k, sb (.slice A n cap) k → S k)
    (ht : t d = .v (.c (.k (.slice A n cap)))) (hy : m y = none) (hyb : Nat.blt y 1000 = true) (k : GR P E Q c ⟨up t d (.v (.c (.inp y A n cap))), up m y (some (.ro sz n el))⟩) : GR P E Q c ⟨t, m⟩ := fun ρ a w hs =>
  let ⟨ρ', h⟩ := hs.openSay hX hR hS ht hy (by simpa [Nat.blt_eq] using hyb); k ρ' a w h
theorem argsK_eval {ρ : Val} {st : St} {a : Act} {w : World} (hs : Sat E ρ st a w) {zs : List Operand} {vs : List Value} (hz : argsK (fun z => evT st.t z) zs vs) : zs.map a.eval = vs := by
  induction zs generalizing vs with
  | nil => cases vs with
    | nil => rfl
    | cons _ _ => exact hz.elim
  | cons z r ih => cases vs with
    | nil => exact hz.elim
    | cons v s =>
      have hz1 := hs.eval z
      rw [show st.ev z = _ from hz.1] at hz1
      rw [List.map_cons, ih hz.2, toTV_val hz1]
theorem GO.callBound {o : Oper} {c : Call} {y : Operand} {zs : List Operand} {f : FuncId} {first v : Value} {vs : List Value} {t : Nat → TV} {m : Mem} (hg : o.guard = none) (hop : o.op = .call c) (hc : c.callee = .value y) (ha : c.args = zs.toArray) (hy : evT t y = .v (.c (.k (.func (.func f) #[first] #[])))) (hz : argsK (fun z => evT t z) zs vs) (hd : dstOk E.N o.dst = true)
    (hcf : ∀ (args : Array Value) (w : World), (callFunc f args).run P w = .ok (.enter f args) w)
    (hcl : ∀ w, Calls P f (first :: vs).toArray w fun e w' => e = .returned v ∧ Below w.heap.size w w')
    (k : GO P E ops K rest ⟨Sx.putT t o.dst (toTV v), m⟩) : GO P E ops K (o :: rest) ⟨t, m⟩ := by
  intro ρ a w hs
  have h1 := hs.eval y
  rw [show St.ev ⟨t, m⟩ y = _ from hy] at h1
  have h2 : a.eval y = .func (.func f) #[first] #[] := h1.2
  have h3 := argsK_eval hs hz
  have hrun : (execOp a.eval o).run P w = .ok (.enter f (first :: vs).toArray) w := by
    simp only [execOp, hop, resolve, hc, ha, Sem.run_bind, Deferred.ofValue, h2, Sem.run_pure, Result.andThen_ok, invoke, hcf]
    congr 2
    apply Array.toList_inj.1
    simp [← h3]
  unfold wpL
  rw [if_pos (by simp [Region.wanted, hg])]
  refine .inl ?_
  unfold Oper.wp
  rw [hrun]
  refine (hcl w).mono ?_
  rintro e w' ⟨rfl, hb⟩
  exact k ρ _ w' ((hs.below hb).putT (dstOk_lt hd) (toTV_rep _ _ v))
end
end Go.Sx
/- Top: heights of strips, and the area between heights. -/
set_option linter.unusedVariables false
set_option linter.unusedSimpArgs false
set_option maxRecDepth 8000
set_option maxHeartbeats 1000000
namespace Go.Proofs.YtphipfmidfoflaaGreat
open Go.Sx Go.RowKit
/-- The iterator's value. -/
def itV (f : FuncId) (g : Nat) : Value := .func (.func f) #[] #[Pt g]
def nbI (l : List Int) (i : Nat) : Array Value := #[I (l.getD i 0), I (l.getD (i + 1) 0)]
def itR (A : Option Addr) (c : Nat) (l : List Int) (g : Nat) (w : World) : Prop := IterC Tryz.prog (itV 133 g) (fun k => k = g ∨ sb (.slice A l.length c) k) (l.length - 1) (nbI l) w
theorem strips_say (A : Option Addr) (c : Nat) (l : List Int) (w : World) (h : RdRow w A l.length 1 (elI l)) (hn : l.length ≤ 100000) : Calls Tryz.prog 114 #[.slice A l.length c] w fun e w' => ∃ g : Nat, e = .returned (itV 133 g) ∧ Below w.heap.size w w' ∧ itR A c l g w' ∧
    (∀ k, (k = g ∨ sb (.slice A l.length c) k) → (w.heap.size ≤ k ∨ sb (.slice A l.length c) k) ∧ k < w'.heap.size) ∧ Steady (fun k => k = g ∨ sb (.slice A l.length c) k) (itR A c l g) := by
  refine (strips_any A c l w).mono ?_
  rintro e w' ⟨g, rfl, hb, h1, h2, h3⟩
  refine ⟨g, rfl, hb, strips_iter l A c g w' h1 (h.below hb) hn, ?_, IterC.steady⟩
  rintro k (rfl | hk)
  · exact ⟨.inl h2, h3⟩
  · exact ⟨.inr hk, Nat.lt_of_lt_of_le (sb_lt h k hk) hb.size⟩
/-- What Check answers for heights. -/
def segOut (l : List Int) : Bool := (List.range l.length).any fun i => decide (l.getD i 0 < 0) || decide (l.getD i 0 > 200000)
def segDown (l : List Int) : Bool := (List.range (l.length - 1)).any fun i => decide (l.getD i 0 > l.getD (i + 1) 0)
def segE (l : List Int) : Int := if l.length < 2 then 9 else if l.length > 65 then 8 else if segOut l = true then 2 else if segDown l = true then 5 else 0
theorem any_range {p : Nat → Bool} {n i : Nat} (hi : i < n) (h : p i = true) : (List.range n).any p = true := List.any_eq_true.2 ⟨i, List.mem_range.2 hi, h⟩
theorem any_range_no {p : Nat → Bool} {n : Nat} (h : ∀ i, i < n → p i = false) : (List.range n).any p = false := by
  rw [List.any_eq_false]
  intro i hi
  rw [h i (List.mem_range.1 hi)]
  exact Bool.false_ne_true
theorem segCheck_any (A : Option Addr) (c : Nat) (l : List Int) (w : World) (h : RdRow w A l.length 1 (elI l)) (hn : l.length ≤ 100000) : Calls Tryz.prog 97 #[.slice A l.length c] w fun e w' => e = .returned (I (segE l)) ∧ Below w.heap.size w w' := by
  refine enterGR [] [.c (.k (.slice A l.length c))] [(801, .say (sb (.slice A l.length c)) (fun w => RdRow w A l.length 1 (elI l)))] Tryz.func97 rfl 33 Tryz.ntmps97 rfl rfl ⟨trivial, trivial⟩ ⟨⟨h, sb_lt h, steady_row⟩, trivial, trivial⟩ ?_
  refine GR.seqR rfl tfine rfl trivial ?_
  refine GR.seq rfl ?_
  refine G.seqR tfine rfl trivial ?_
  refine G.cond (b := decide ((l.length : Int) < 2)) rfl (fun h1 => ?_) (fun h1 => ?_)
  · refine G.seqR tfine rfl trivial ?_
    refine G.ret (endM0 tfine (.inl rfl) rfl rfl fun w' hf => ⟨?_, hf.toBelow⟩)
    have h1 := of_decide_eq_true h1
    rw [segE, if_pos (by omega)]
  have h1 := of_decide_eq_false h1
  refine G.skip ?_
  refine GR.seq rfl ?_
  refine G.seqR tfine rfl trivial ?_
  refine G.cond (b := decide ((l.length : Int) > 65)) rfl (fun h2 => ?_) (fun h2 => ?_)
  · refine G.seqR tfine rfl trivial ?_
    refine G.ret (endM0 tfine (.inl rfl) rfl rfl fun w' hf => ⟨?_, hf.toBelow⟩)
    have h2 := of_decide_eq_true h2
    rw [segE, if_neg (by omega), if_pos (by omega)]
  have h2 := of_decide_eq_false h2
  refine G.skip ?_
  refine GR.seq rfl (G.seqR tfine rfl trivial ?_)
  refine G.openSay 801 805 13 rfl (fun _ h => h) (fun _ h => h) rfl rfl rfl ?_
  refine G.block (G.loop (fun i : Nat => St.of [(0, .v (.c (.k (.slice A l.length c)))), (2, .v (.c (.ptr 2 0 0 0))), (13, .v (.c (.inp 805 A l.length c))), (14, .v (.c (.k (I l.length)))), (15, .v (.c (.k (I i))))]
      [(2, .var 28 [.k (I 0)]), (801, .say (sb (.slice A l.length c)) (fun w => RdRow w A l.length 1 (elI l))), (805, .ro 1 l.length (elI l))])
    (fun i => i ≤ l.length ∧ ∀ j, j < i → (decide (l.getD j 0 < 0) || decide (l.getD j 0 > 200000)) = false) (fun i => l.length - i) 0 ⟨Nat.zero_le _, fun j hj => absurd hj (Nat.not_lt_zero j)⟩
    (St.le_of rfl ⟨⟨_, rfl, Blk.le_refl _⟩, ⟨_, rfl, Blk.le_refl _⟩, ⟨_, rfl, Blk.le_refl _⟩, trivial⟩ ⟨rfl, rfl, rfl, rfl, rfl, trivial⟩) ?_)
  rintro i ⟨hi, hno⟩
  refine G.seqR tfine rfl trivial ?_
  refine G.seq (G.cond (b := decide ((i : Int) < (l.length : Int))) rfl (fun h3 => ?_) (fun h3 => ?_))
  rotate_left
  · have h3 := of_decide_eq_false h3
    have hi : i = l.length := by omega
    subst hi
    have hno' : segOut l = false := any_range_no hno
    refine G.exit ?_
    refine GR.seq2 rfl (G.regC tfine rfl trivial ?_)
    refine GO.callSayX 801 811 (itV 133) (fun g k => k = g ∨ sb (.slice A l.length c) k) (itR A c l) rfl rfl rfl rfl rfl rfl (fun args w => Tryz.call114 args w) (fun ρ w1 hs hok => strips_say A c l w1 (hs.ok 801 _ rfl).1 hn) fun g => ?_
    refine GO.nil ?_
    obtain ⟨go, hgo0⟩ : ∃ go : Nat → Bool, go = fun i => !decide (l.getD i 0 > l.getD (i + 1) 0) := ⟨_, rfl⟩
    refine GR.rangeK rfl 811 821 [⟨2, 28, kL fun i => [stopV go (I 0) (I 5) i]⟩] go [28, 29] (fun i => [I (l.getD i 0), I (l.getD (i + 1) 0)])
      rfl rfl (fun w h => h) (fun k h => h) ⟨rfl, trivial⟩ ⟨fun i => rfl, trivial⟩ rfl rfl rfl (fun i => rfl) (fun i => rfl) rfl rfl rfl ?_ ?_ ?_
    · intro W1 ρ l0 i o hi hgo
      refine G.seqR tfine rfl trivial ?_
      refine G.reg tfine rfl trivial ⟨rfl, rfl, fun o' => ?_⟩
      refine G.block ?_
      refine G.seqR tfine rfl trivial ?_
      refine G.cond (b := decide (l.getD i 0 > l.getD (i + 1) 0)) rfl (fun h4 => ?_) (fun h4 => ?_)
      · have hgi : go i = false := by rw [hgo0]; simp only [h4, Bool.not_true]
        refine G.seqR tfine rfl trivial ?_
        refine G.ret ⟨by rw [hgi]; rfl, rfl, ?_, trivial⟩
        show some (boxB (28, [I 5])) = some (boxB (28, [stopV go (I 0) (I 5) (i + 1)]))
        rw [stopV_no hgi]
      · have hgi : go i = true := by rw [hgo0]; simp only [h4, Bool.not_false]
        refine G.skip ⟨by rw [hgi]; rfl, rfl, ?_, trivial⟩
        show some (boxB (28, [stopV go (I 0) (I 5) i])) = some (boxB (28, [stopV go (I 0) (I 5) (i + 1)]))
        rw [stopV_yes hgi, stopV_go hgo]
    · intro hall D hD hlt
      refine GR.seqR rfl tfine rfl trivial ?_
      refine GR.of rfl (G.ret (endM1 tfine 821 D (.inl rfl) rfl hD rfl rfl fun w' hf => ⟨?_, hf.toBelow⟩))
      have hd : segDown l = false := any_range_no fun i hi => by have := hall i hi; rw [hgo0] at this; simpa using this
      have e : segE l = 0 := by rw [segE, if_neg (by omega), if_neg (by omega), hno', hd]; rfl
      rw [e]
    · intro i hi hgo hgi D hD hlt
      refine endM1 tfine 821 D (.inl rfl) rfl hD rfl rfl fun w' hf => ⟨?_, hf.toBelow⟩
      have h4 : decide (l.getD i 0 > l.getD (i + 1) 0) = true := by rw [hgo0] at hgi; simpa using hgi
      have hd : segDown l = true := any_range (p := fun i => decide (l.getD i 0 > l.getD (i + 1) 0)) hi h4
      have e : segE l = 5 := by rw [segE, if_neg (by omega), if_neg (by omega), hno', hd]; rfl
      rw [e, stopV_no hgi]
  have h3 := of_decide_eq_true h3
  have hlt : i < l.length := by omega
  refine G.skip ?_
  refine G.seq (G.block ?_)
  refine G.seqR tfine rfl ?_ ?_
  · first | trivial | (simp [AllP, condB]; done) | (simp only [AllP]; and_intros <;> first | trivial | decide | omega) | (simp [AllP, condB]; intros; and_intros <;> first | assumption | omega) | (simp [AllP, condB]; intros; simp_all; done)
  refine G.seqR tfine rfl ?_ ?_
  · first | trivial | (simp [AllP, condB]; done) | (simp only [AllP]; and_intros <;> first | trivial | decide | omega) | (simp [AllP, condB]; intros; and_intros <;> first | assumption | omega) | (simp [AllP, condB]; intros; simp_all; done)
  refine G.cond (b := decide (l.getD i 0 < 0) || decide (l.getD i 0 > 200000)) rfl (fun h4 => ?_) (fun h4 => ?_)
  · refine G.seqR tfine rfl trivial ?_
    refine G.ret (endM0 tfine (.inl rfl) rfl rfl fun w' hf => ⟨?_, hf.toBelow⟩)
    rw [segE, if_neg (by omega), if_neg (by omega), if_pos (show segOut l = true from any_range (p := fun i => decide (l.getD i 0 < 0) || decide (l.getD i 0 > 200000)) hlt h4)]
  refine G.skip ?_
  refine G.reg tfine rfl trivial ?_
  refine ⟨i + 1, ⟨by omega, fun j hj => ?_⟩, (by show l.length - (i + 1) < l.length - i; omega), St.le_of rfl ⟨⟨_, rfl, Blk.le_refl _⟩, ⟨_, rfl, Blk.le_refl _⟩, ⟨_, rfl, Blk.le_refl _⟩, trivial⟩ ⟨rfl, rfl, rfl, rfl, ?_, trivial⟩⟩
  · rcases Nat.lt_or_ge j i with h | h
    · exact hno j h
    · rw [show j = i by omega]; exact h4
  · simp [up, I]; rw [IntWalk.i64_in _ (by omega)]
def areaS (r c : Int) (l : List Int) : Nat → Int × Int
  | 0 => (0, 0)
  | i + 1 => (IntKind.i64.wrap ((areaS r c l i).1 + (segment_circle__strip r c (l.getD i 0) (l.getD (i + 1) 0)).1), IntKind.i64.wrap ((areaS r c l i).2 + (segment_circle__strip r c (l.getD i 0) (l.getD (i + 1) 0)).2))
def areaM (r c : Int) (l : List Int) : Int × Int := areaS r c l (l.length - 1)
def segArea (r c : Int) (l : List Int) : Int × Int × Int := if ((!(segment_measure r)) || (!(segment_measure c))) = true then (0, 0, 2) else if (segE l != 0) = true then (0, 0, segE l) else ((areaM r c l).1, (areaM r c l).2, 0)
theorem segArea_any (r cc : Int) (A : Option Addr) (c : Nat) (l : List Int) (w : World) (h : RdRow w A l.length 1 (elI l)) (hn : l.length ≤ 100000) : Calls Tryz.prog 93 #[I r, I cc, .slice A l.length c] w fun e w' => e = .returned (.tuple #[.agg #[I (segArea r cc l).1, I (segArea r cc l).2.1], I (segArea r cc l).2.2]) ∧ Below w.heap.size w w' := by
  refine enterGR [] [.c (.k (I r)), .c (.k (I cc)), .c (.k (.slice A l.length c))] [(801, .say (sb (.slice A l.length c)) (fun w => RdRow w A l.length 1 (elI l)))] Tryz.func93 rfl 54 Tryz.ntmps93 rfl rfl ⟨trivial, trivial, trivial, trivial⟩ ⟨⟨h, sb_lt h, steady_row⟩, trivial, trivial⟩ ?_
  refine GR.seqR rfl tfine rfl trivial ?_
  refine GR.seq rfl ?_
  refine G.seqC tfine rfl trivial ?_
  refine GO.callPlain (v := .bool (segment_measure r)) rfl rfl rfl rfl (fun args w => Tryz.call33 args w) (fun ρ w hs hok => segment_measure_any _ w) ?_
  refine GO.more tfine rfl trivial ?_
  refine GO.callGuard (.bool (segment_measure cc)) rfl rfl rfl (by first | exact trivial | exact ⟨id, trivial⟩ | exact ⟨id, id, trivial⟩) rfl rfl (fun args w => Tryz.call33 args w) rfl (fun _ m' hle ρ w hs hok => segment_measure_any _ w) ?_
  refine GO.fin tfine rfl ?_ ?_
  · first | trivial | (simp [AllP, condB]; done) | (simp only [AllP]; and_intros <;> first | trivial | decide | omega) | (simp [AllP, condB]; intros; and_intros <;> first | assumption | omega) | (simp [AllP, condB]; intros; simp_all; done)
  refine G.cond (b := (!(segment_measure r)) || (!(segment_measure cc))) rfl (fun h1 => ?_) (fun h1 => ?_)
  · refine G.seqR tfine rfl trivial ?_
    refine G.ret (endM0 tfine (.inl rfl) rfl rfl fun w' hf => ⟨?_, hf.toBelow⟩)
    rw [segArea, if_pos h1]
  refine G.skip ?_
  refine GR.seq rfl ?_
  refine G.seqC tfine rfl trivial ?_
  refine GO.callPlain (v := I (segE l)) rfl rfl rfl rfl (fun args w => Tryz.call97 args w) (fun ρ w hs hok => segCheck_any A c l w (hs.ok 801 _ rfl).1 hn) ?_
  refine GO.fin tfine rfl trivial ?_
  refine G.seqR tfine rfl trivial ?_
  refine G.cond (b := segE l != 0) rfl (fun h2 => ?_) (fun h2 => ?_)
  · refine G.seqR tfine rfl trivial ?_
    refine G.ret (endM0 tfine (.inl rfl) rfl rfl fun w' hf => ⟨?_, hf.toBelow⟩)
    rw [segArea, if_neg (fne h1), if_pos h2]
  refine G.skip ?_
  refine GR.seqC rfl tfine rfl trivial ?_
  refine GO.makeBound (.agg #[I r, I cc]) rfl rfl rfl rfl ?_
  refine GO.fin tfine rfl trivial ?_
  refine GR.seqR rfl tfine rfl trivial ?_
  refine GR.seq2 rfl (G.regC tfine rfl trivial ?_)
  refine GO.callSayX 801 811 (itV 133) (fun g k => k = g ∨ sb (.slice A l.length c) k) (itR A c l) rfl rfl rfl rfl rfl rfl (fun args w => Tryz.call114 args w) (fun ρ w1 hs hok => strips_say A c l w1 (hs.ok 801 _ rfl).1 hn) fun g => ?_
  refine GO.nil ?_
  refine GR.rangeK rfl 811 821 [⟨10, 33, kL fun i => [I (areaS r cc l i).1, I (areaS r cc l i).2]⟩, ⟨9, 153, kL fun _ => [.func (.func 113) #[.agg #[I r, I cc]] #[]]⟩] (fun _ => true) [35, 36] (fun i => [I (l.getD i 0), I (l.getD (i + 1) 0)])
      rfl rfl (fun w h => h) (fun k h => h) ⟨rfl, rfl, trivial⟩ ⟨fun i => rfl, fun i => rfl, trivial⟩ rfl rfl rfl (fun i => rfl) (fun i => rfl) rfl rfl rfl ?_ ?_ ?_
  · intro W1 ρ l0 i o hi hgo
    refine G.seqR tfine rfl trivial ?_
    refine G.reg tfine rfl trivial ⟨rfl, rfl, fun o' => ?_⟩
    refine G.block ?_
    refine G.seqC tfine rfl trivial ?_
    refine GO.callBound (zs := [.tmp 38, .tmp 39]) (vs := [I (l.getD i 0), I (l.getD (i + 1) 0)]) (v := .agg #[I (segment_circle__strip r cc (l.getD i 0) (l.getD (i + 1) 0)).1, I (segment_circle__strip r cc (l.getD i 0) (l.getD (i + 1) 0)).2]) rfl rfl rfl rfl rfl ⟨rfl, rfl, trivial⟩ rfl (fun args w => Tryz.call113 args w) (fun w => segment_circle__strip_any _ _ _ _ w) ?_
    refine GO.fin tfine rfl trivial ?_
    refine G.regD tfine hmix [0, 1, 0, 4, 15, 0, 32, 0, 128, 480, 127, 1151, 4095, 8191] [(11, 1500), (13, 1500)] rfl rfl rfl rfl trivial ?_
    exact ⟨rfl, rfl, rfl, rfl, trivial⟩
  · intro hall D hD hlt
    refine GR.seqR rfl tfine rfl trivial ?_
    refine GR.of rfl (G.ret (endM1 tfine 821 D (.inl rfl) rfl hD rfl rfl fun w' hf => ⟨?_, hf.toBelow⟩))
    rw [segArea, if_neg (fne h1), if_neg (fne h2)]; rfl
  · intro i hi hgo hgi
    cases hgi
end Go.Proofs.YtphipfmidfoflaaGreat
/- Top: profiles of casks. -/
set_option linter.unusedVariables false
set_option linter.unusedSimpArgs false
set_option maxRecDepth 8000
set_option maxHeartbeats 1000000
namespace Go.Proofs.YtphipfmidfoflaaGreat
open Go.Sx Go.RowKit
theorem indexFuncP_any (f : FuncId) (q : (Int × Int) → Bool) (hcf : ∀ args w, (callFunc f args).run Tryz.prog w = .ok (.enter f args) w)
    (hf : ∀ v w, Calls Tryz.prog f #[.agg #[I v.1, I v.2]] w fun e w' => e = .returned (.bool (q v)) ∧ Below w.heap.size w w') (A : Option Addr) (c : Nat) (l : List (Int × Int)) (w : World) (hl : RdRow w A l.length 2 (elP l)) (hm : l.length ≤ 4611686018427387904) :
    Calls Tryz.prog 110 #[.slice A l.length c, .func (.func f) #[] #[]] w fun e w' => e = .returned (I (firstI (fun k => q (l.getD k (0, 0))) 0 l.length)) ∧ Below w.heap.size w w' := by
  refine enterPlain tfine Tryz.func110 rfl 19 Tryz.ntmps110 [.c (.inp 1000 A l.length c), .c (.k (.func (.func f) #[] #[]))] [⟨1000, A, 2, l.length, elP l⟩] rfl rfl ⟨hl, trivial⟩ ⟨.inl ⟨rfl, rfl, rfl⟩, trivial, trivial⟩ ?_
  refine G.seqR tfine rfl trivial ?_
  refine G.seq (G.seqR tfine rfl trivial ?_)
  refine G.block (G.loop (fun k : Nat => St.of [(0, .v (.c (.inp 1000 A l.length c))), (1, .v (.c (.k (.func (.func f) #[] #[])))), (7, .v (.c (.k (I l.length)))), (8, .v (.c (.k (I k))))] [(1000, .ro 2 l.length (elP l))])
    (fun k => k ≤ l.length ∧ firstI (fun k => q (l.getD k (0, 0))) 0 l.length = firstI (fun k => q (l.getD k (0, 0))) k (l.length - k)) (fun k => l.length - k) 0 ⟨by omega, by simp⟩ (St.le_of rfl ⟨⟨_, rfl, Blk.le_refl _⟩, trivial⟩ ⟨rfl, rfl, rfl, rfl, trivial⟩) ?_)
  rintro k ⟨hk, hfi⟩
  refine G.seqR tfine rfl trivial ?_
  refine G.seq (G.cond rfl (fun h => ?_) (fun h => ?_))
  rotate_left
  · have h := of_decide_eq_false h
    have : k = l.length := by omega
    subst this
    refine G.exit ?_
    refine G.seqR tfine rfl trivial ?_
    refine G.ret (endK.ret rfl ?_)
    rw [hfi]
    simp [firstI]
  have h := of_decide_eq_true h
  have hlt : k < l.length := by omega
  refine G.skip ?_
  refine G.seq (G.block ?_)
  refine G.seqR tfine rfl trivial ?_
  refine G.seqC tfine rfl ⟨by simpa using hlt, by omega, by omega, trivial⟩ ?_
  rw [Int.toNat_natCast]
  refine GO.callPlain rfl rfl rfl rfl hcf (fun ρ w hm _ => hf _ w) (GO.nil ?_)
  have hs : l.length - k = (l.length - (k + 1)) + 1 := by omega
  rw [hs, firstI] at hfi
  refine G.cond rfl (fun h2 => ?_) (fun h2 => ?_)
  · refine G.seqR tfine rfl trivial ?_
    refine G.ret (endK.ret rfl ?_)
    rw [hfi, if_pos h2]
  · refine G.skip ?_
    refine G.reg tfine rfl trivial ?_
    rw [IntWalk.i64_in _ (by omega)]
    rw [if_neg (by simpa using h2)] at hfi
    exact ⟨k + 1, ⟨by omega, hfi⟩, (by show l.length - (k + 1) < l.length - k; omega), St.le_of rfl ⟨⟨_, rfl, Blk.le_refl _⟩, trivial⟩ ⟨rfl, rfl, rfl, by simp [up, I], trivial⟩⟩
theorem containsFuncP_any (f : FuncId) (q : (Int × Int) → Bool) (hcf : ∀ args w, (callFunc f args).run Tryz.prog w = .ok (.enter f args) w)
    (hf : ∀ v w, Calls Tryz.prog f #[.agg #[I v.1, I v.2]] w fun e w' => e = .returned (.bool (q v)) ∧ Below w.heap.size w w') (A : Option Addr) (c : Nat) (l : List (Int × Int)) (w : World) (hl : RdRow w A l.length 2 (elP l)) (hm : l.length ≤ 4611686018427387904) :
    Calls Tryz.prog 86 #[.slice A l.length c, .func (.func f) #[] #[]] w fun e w' => e = .returned (.bool (decide (firstI (fun k => q (l.getD k (0, 0))) 0 l.length ≥ 0))) ∧ Below w.heap.size w w' := by
  refine enterPlain tfine Tryz.func86 rfl 9 Tryz.ntmps86 [.c (.inp 1000 A l.length c), .c (.k (.func (.func f) #[] #[]))] [⟨1000, A, 2, l.length, elP l⟩] rfl rfl ⟨hl, trivial⟩ ⟨.inl ⟨rfl, rfl, rfl⟩, trivial, trivial⟩ ?_
  refine G.seqR tfine rfl trivial ?_
  refine G.seqC tfine rfl trivial ?_
  refine GO.callPlain rfl rfl rfl rfl (fun args w => Tryz.call110 args w) (fun ρ w hs hok => indexFuncP_any f q hcf hf A c l w (hs.row rfl (hok _ List.mem_cons_self)) hm) ?_
  refine GO.fin tfine rfl trivial ?_
  exact G.ret (endK.ret rfl rfl)
def profile_Check_1 (x0_0 : Int) (x0_1 : Int) : Bool := ((!(profile_measure x0_0)) || (!(profile_measure x0_1)))
theorem profile_Check_1_any (x0_0 : Int) (x0_1 : Int) (w : World) : Calls Tryz.prog 87 #[.agg #[I x0_0, I x0_1]] w fun e w' => e = .returned (.bool (profile_Check_1 x0_0 x0_1)) ∧ Below w.heap.size w w' := by
  refine enterPlain tfine Tryz.func87 rfl 13 Tryz.ntmps87 [.agg [.k (I x0_0), .k (I x0_1)]] [] rfl rfl trivial ⟨⟨trivial, trivial, trivial⟩, trivial⟩ ?_
  refine G.seqR tfine rfl ?_ ?_
  · first | trivial | (simp [AllP, condB]; done) | (simp only [AllP]; and_intros <;> first | trivial | decide | omega) | (simp [AllP, condB]; intros; and_intros <;> first | assumption | omega) | (simp [AllP, condB]; intros; simp_all; done) | (simp [AllP, condB]; intros; simp_all; omega) | (simp [AllP, condB]; omega)
  refine G.seqC tfine rfl ?_ ?_
  · first | trivial | (simp [AllP, condB]; done) | (simp only [AllP]; and_intros <;> first | trivial | decide | omega) | (simp [AllP, condB]; intros; and_intros <;> first | assumption | omega) | (simp [AllP, condB]; intros; simp_all; done) | (simp [AllP, condB]; intros; simp_all; omega) | (simp [AllP, condB]; omega)
  refine GO.callPlain (v := .bool (profile_measure x0_0))  rfl rfl rfl rfl (fun args w => Tryz.call88 args w) (fun ρ w hs hok => profile_measure_any _ w) ?_
  refine GO.more tfine rfl ?_ ?_
  · first | trivial | (simp [AllP, condB]; done) | (simp only [AllP]; and_intros <;> first | trivial | decide | omega) | (simp [AllP, condB]; intros; and_intros <;> first | assumption | omega) | (simp [AllP, condB]; intros; simp_all; done) | (simp [AllP, condB]; intros; simp_all; omega) | (simp [AllP, condB]; omega)
  refine GO.callGuard (.bool (profile_measure x0_1)) rfl rfl rfl (by first | exact trivial | exact ⟨id, trivial⟩ | exact ⟨id, id, trivial⟩ | exact ⟨id, id, id, trivial⟩ | exact ⟨id, id, id, id, trivial⟩) rfl rfl (fun args w => Tryz.call88 args w) rfl (fun _ m' hle ρ w hs hok => profile_measure_any _ w) ?_
  refine GO.fin tfine rfl ?_ ?_
  · first | trivial | (simp [AllP, condB]; done) | (simp only [AllP]; and_intros <;> first | trivial | decide | omega) | (simp [AllP, condB]; intros; and_intros <;> first | assumption | omega) | (simp [AllP, condB]; intros; simp_all; done) | (simp [AllP, condB]; intros; simp_all; omega) | (simp [AllP, condB]; omega)
  refine G.ret (endK.ret rfl ?_)
  first | (rw [profile_Check_1]; done) | (rw [profile_Check_1]; rfl)
def profile_Check_2 (x0_0 : Int) (x0_1 : Int) : Bool := (x0_1 == (0 : Int))
theorem profile_Check_2_any (x0_0 : Int) (x0_1 : Int) (w : World) : Calls Tryz.prog 90 #[.agg #[I x0_0, I x0_1]] w fun e w' => e = .returned (.bool (profile_Check_2 x0_0 x0_1)) ∧ Below w.heap.size w w' := by
  refine enterPlain tfine Tryz.func90 rfl 6 Tryz.ntmps90 [.agg [.k (I x0_0), .k (I x0_1)]] [] rfl rfl trivial ⟨⟨trivial, trivial, trivial⟩, trivial⟩ ?_
  refine G.seqR tfine rfl ?_ ?_
  · first | trivial | (simp [AllP, condB]; done) | (simp only [AllP]; and_intros <;> first | trivial | decide | omega) | (simp [AllP, condB]; intros; and_intros <;> first | assumption | omega) | (simp [AllP, condB]; intros; simp_all; done) | (simp [AllP, condB]; intros; simp_all; omega) | (simp [AllP, condB]; omega)
  refine G.seqR tfine rfl ?_ ?_
  · first | trivial | (simp [AllP, condB]; done) | (simp only [AllP]; and_intros <;> first | trivial | decide | omega) | (simp [AllP, condB]; intros; and_intros <;> first | assumption | omega) | (simp [AllP, condB]; intros; simp_all; done) | (simp [AllP, condB]; intros; simp_all; omega) | (simp [AllP, condB]; omega)
  refine G.ret (endK.ret rfl ?_)
  first | (rw [profile_Check_2]; done) | (rw [profile_Check_2]; rfl)
def badX (p : Int × Int) : Bool := profile_Check_1 p.1 p.2
def zeroR (p : Int × Int) : Bool := profile_Check_2 p.1 p.2
abbrev pt (l : List (Int × Int)) (i : Nat) : Int × Int := l.getD i (0, 0)
def pDown (l : List (Int × Int)) : Bool := (List.range (l.length - 1)).any fun i => decide ((pt l i).1 ≥ (pt l (i + 1)).1)
def fallsP (l : List (Int × Int)) : Nat → Bool
  | 0 => false
  | i + 1 => fallsP l i || decide ((pt l (i + 1)).2 < (pt l i).2)
def pWave (l : List (Int × Int)) : Bool := (List.range (l.length - 1)).any fun i => fallsP l i && decide ((pt l (i + 1)).2 > (pt l i).2)
def profE (l : List (Int × Int)) : Int := if decide ((l.length : Int) < 2) = true then 9 else if decide ((l.length : Int) > 32) = true then 8 else if l.any badX = true then 2 else if ((pt l 0).1 != 0) = true then 5 else if pDown l = true then 5 else if l.any zeroR = true then 16 else if pWave l = true then 10 else 0
def nbP (l : List (Int × Int)) (i : Nat) : Array Value := #[.agg #[I (pt l i).1, I (pt l i).2], .agg #[I (pt l (i + 1)).1, I (pt l (i + 1)).2]]
def itP (A : Option Addr) (c : Nat) (l : List (Int × Int)) (g : Nat) (w : World) : Prop := IterC Tryz.prog (itV 111 g) (fun k => k = g ∨ sb (.slice A l.length c) k) (l.length - 1) (nbP l) w
theorem staves_say (A : Option Addr) (c : Nat) (l : List (Int × Int)) (w : World) (h : RdRow w A l.length 2 (elP l)) (hn : l.length ≤ 100000) : Calls Tryz.prog 89 #[.slice A l.length c] w fun e w' => ∃ g : Nat, e = .returned (itV 111 g) ∧ Below w.heap.size w w' ∧ itP A c l g w' ∧
    (∀ k, (k = g ∨ sb (.slice A l.length c) k) → (w.heap.size ≤ k ∨ sb (.slice A l.length c) k) ∧ k < w'.heap.size) ∧ Steady (fun k => k = g ∨ sb (.slice A l.length c) k) (itP A c l g) := by
  refine (staves_any A c l w).mono ?_
  rintro e w' ⟨g, rfl, hb, h1, h2, h3⟩
  refine ⟨g, rfl, hb, staves_iter l A c g w' h1 (h.below hb) hn, ?_, IterC.steady⟩
  rintro k (rfl | hk)
  · exact ⟨.inl h2, h3⟩
  · exact ⟨.inr hk, Nat.lt_of_lt_of_le (sb_lt h k hk) hb.size⟩
theorem contP (f : FuncId) (q : (Int × Int) → Bool) (hcf : ∀ args w, (callFunc f args).run Tryz.prog w = .ok (.enter f args) w)
    (hf : ∀ v w, Calls Tryz.prog f #[.agg #[I v.1, I v.2]] w fun e w' => e = .returned (.bool (q v)) ∧ Below w.heap.size w w') (A : Option Addr) (c : Nat) (l : List (Int × Int)) (w : World) (hl : RdRow w A l.length 2 (elP l)) (hm : l.length ≤ 100000) :
    Calls Tryz.prog 86 #[.slice A l.length c, .func (.func f) #[] #[]] w fun e w' => e = .returned (.bool (l.any q)) ∧ Below w.heap.size w w' := by
  have := containsFuncP_any f q hcf hf A c l w hl (by omega)
  rw [firstI_any, any_getDg] at this
  exact this
theorem profCheck_any (A : Option Addr) (c : Nat) (l : List (Int × Int)) (w : World) (h : RdRow w A l.length 2 (elP l)) (hn : l.length ≤ 100000) : Calls Tryz.prog 51 #[.slice A l.length c] w fun e w' => e = .returned (I (profE l)) ∧ Below w.heap.size w w' := by
  refine enterGR [] [.c (.k (.slice A l.length c))] [(801, .say (sb (.slice A l.length c)) (fun w => RdRow w A l.length 2 (elP l)))] Tryz.func51 rfl 56 Tryz.ntmps51 rfl rfl ⟨trivial, trivial⟩ ⟨⟨h, sb_lt h, steady_row⟩, trivial, trivial⟩ ?_
  refine GR.openSay 801 805 0 rfl (fun _ h => h) (fun _ h => h) rfl rfl rfl ?_
  refine GR.seqR rfl tfine rfl trivial ?_
  refine GR.seq rfl ?_
  refine G.block ?_
  refine G.seqR tfine rfl trivial ?_
  refine G.cond rfl (fun h1 => ?_) (fun h1 => ?_)
  · refine G.seqR tfine rfl trivial ?_
    refine G.ret (endM0 tfine (.inl rfl) rfl rfl fun w' hf => ⟨?_, hf.toBelow⟩)
    rw [profE, if_pos h1]
  refine G.seqR tfine rfl trivial ?_
  refine G.cond rfl (fun h2 => ?_) (fun h2 => ?_)
  · refine G.seqR tfine rfl trivial ?_
    refine G.ret (endM0 tfine (.inl rfl) rfl rfl fun w' hf => ⟨?_, hf.toBelow⟩)
    rw [profE, if_neg (fne h1), if_pos h2]
  refine G.seqC tfine rfl trivial ?_
  refine GO.callPlain (v := .bool (l.any badX)) rfl rfl rfl rfl (fun args w => Tryz.call86 args w) (fun ρ w hs hok => contP 87 badX (fun args w => Tryz.call87 args w) (fun v w => profile_Check_1_any v.1 v.2 w) A c l w (hs.ok 801 _ rfl).1 hn) ?_
  refine GO.fin tfine rfl trivial ?_
  refine G.cond (b := l.any badX) rfl (fun h3 => ?_) (fun h3 => ?_)
  · refine G.seqR tfine rfl trivial ?_
    refine G.ret (endM0 tfine (.inl rfl) rfl rfl fun w' hf => ⟨?_, hf.toBelow⟩)
    rw [profE, if_neg (fne h1), if_neg (fne h2), if_pos h3]
  have hlen : 2 ≤ l.length := by have := of_decide_eq_false h1; omega
  refine G.seqR tfine rfl (by simp only [AllP]; and_intros <;> first | trivial | decide | omega) ?_
  refine G.cond (b := (pt l 0).1 != 0) rfl (fun h4 => ?_) (fun h4 => ?_)
  · refine G.seqR tfine rfl trivial ?_
    refine G.ret (endM0 tfine (.inl rfl) rfl rfl fun w' hf => ⟨?_, hf.toBelow⟩)
    rw [profE, if_neg (fne h1), if_neg (fne h2), if_neg (fne h3), if_pos h4]
  refine G.skip ?_
  have hE : profE l = if pDown l = true then 5 else if l.any zeroR = true then 16 else if pWave l = true then 10 else 0 := by rw [profE, if_neg (fne h1), if_neg (fne h2), if_neg (fne h3), if_neg (fne h4)]
  refine GR.seq2 rfl (G.regC tfine rfl trivial ?_)
  refine GO.callSayX 801 811 (itV 111) (fun g k => k = g ∨ sb (.slice A l.length c) k) (itP A c l) rfl rfl rfl rfl rfl rfl (fun args w => Tryz.call89 args w) (fun ρ w1 hs hok => staves_say A c l w1 (hs.ok 801 _ rfl).1 hn) fun g => ?_
  refine GO.nil ?_
  obtain ⟨go, hgo0⟩ : ∃ go : Nat → Bool, go = fun i => !decide ((pt l i).1 ≥ (pt l (i + 1)).1) := ⟨_, rfl⟩
  refine GR.rangeK rfl 811 821 [⟨2, 28, kL fun i => [stopV go (I 0) (I 5) i]⟩] go [27, 28] (fun i => [.agg #[I (pt l i).1, I (pt l i).2], .agg #[I (pt l (i + 1)).1, I (pt l (i + 1)).2]])
      rfl rfl (fun w h => h) (fun k h => h) ⟨rfl, trivial⟩ ⟨fun i => rfl, trivial⟩ rfl rfl rfl (fun i => rfl) (fun i => rfl) rfl rfl rfl ?_ ?_ ?_
  · intro W1 ρ l0 i o hi hgo
    refine G.seqR tfine rfl trivial ?_
    refine G.reg tfine rfl trivial ⟨rfl, rfl, fun o' => ?_⟩
    refine G.block ?_
    refine G.seqR tfine rfl trivial ?_
    refine G.cond (b := decide ((pt l i).1 ≥ (pt l (i + 1)).1)) rfl (fun h4 => ?_) (fun h4 => ?_)
    · have hgi : go i = false := by rw [hgo0]; simp only [h4, Bool.not_true]
      refine G.seqR tfine rfl trivial ?_
      refine G.ret ⟨by rw [hgi]; rfl, rfl, ?_, trivial⟩
      show some (boxB (28, [I 5])) = some (boxB (28, [stopV go (I 0) (I 5) (i + 1)]))
      rw [stopV_no hgi]
    · have hgi : go i = true := by rw [hgo0]; simp only [h4, Bool.not_false]
      refine G.skip ⟨by rw [hgi]; rfl, rfl, ?_, trivial⟩
      show some (boxB (28, [stopV go (I 0) (I 5) i])) = some (boxB (28, [stopV go (I 0) (I 5) (i + 1)]))
      rw [stopV_yes hgi, stopV_go hgo]
  rotate_left
  · intro i hi hgo hgi D hD hlt
    refine endM1 tfine 821 D (.inl rfl) rfl hD rfl rfl fun w' hf => ⟨?_, hf.toBelow⟩
    have h4 : decide ((pt l i).1 ≥ (pt l (i + 1)).1) = true := by rw [hgo0] at hgi; simpa using hgi
    rw [hE, if_pos (show pDown l = true from any_range (p := fun i => decide ((pt l i).1 ≥ (pt l (i + 1)).1)) hi h4), stopV_no hgi]
  intro hall D hD hlt
  have hd : pDown l = false := any_range_no fun i hi => by have := hall i hi; rw [hgo0] at this; simpa using this
  rw [hd] at hE
  have hE : profE l = if l.any zeroR = true then 16 else if pWave l = true then 10 else 0 := hE
  have e0 : kL (fun i => [stopV go (I 0) (I 5) i]) (l.length - 1) = [.k (I 0)] := by show [AC.k (stopV go (I 0) (I 5) (l.length - 1))] = _; rw [stopV_go hall]
  simp only [aftM, e0]
  clear hgo0 hall e0
  refine GR.seq rfl ?_
  refine G.seqC tfine rfl trivial ?_
  refine GO.callPlain (v := .bool (l.any zeroR)) rfl rfl rfl rfl (fun args w => Tryz.call86 args w) (fun ρ w hs hok => contP 90 zeroR (fun args w => Tryz.call90 args w) (fun v w => profile_Check_2_any v.1 v.2 w) A c l w (hs.ok 801 _ rfl).1 hn) ?_
  refine GO.fin tfine rfl trivial ?_
  refine G.cond (b := l.any zeroR) rfl (fun h5 => ?_) (fun h5 => ?_)
  · refine G.seqR tfine rfl trivial ?_
    refine G.ret (endM1 tfine 821 D (.inl rfl) rfl hD rfl rfl fun w' hf => ⟨?_, hf.toBelow⟩)
    rw [hE, if_pos h5]
  refine G.skip ?_
  rw [h5] at hE
  have hE : profE l = if pWave l = true then 10 else 0 := hE
  refine GR.seqR rfl tfine rfl trivial ?_
  refine GR.seq2 rfl (G.regC tfine rfl trivial ?_)
  refine GO.callSayX 801 812 (itV 111) (fun g k => k = g ∨ sb (.slice A l.length c) k) (itP A c l) rfl rfl rfl rfl rfl rfl (fun args w => Tryz.call89 args w) (fun ρ w1 hs hok => staves_say A c l w1 (hs.ok 801 _ rfl).1 hn) fun g2 => ?_
  refine GO.nil ?_
  obtain ⟨go2, hgo2⟩ : ∃ go : Nat → Bool, go = fun i => !(fallsP l i && decide ((pt l (i + 1)).2 > (pt l i).2)) := ⟨_, rfl⟩
  refine GR.rangeK rfl 812 822 [⟨2, 28, kL fun i => [stopV go2 (I 0) (I 10) i]⟩, ⟨5, 4, kL fun i => [.bool (fallsP l i)]⟩] go2 [38, 39] (fun i => [.agg #[I (pt l i).1, I (pt l i).2], .agg #[I (pt l (i + 1)).1, I (pt l (i + 1)).2]])
      rfl rfl (fun w h => h) (fun k h => h) ⟨rfl, rfl, trivial⟩ ⟨fun i => rfl, fun i => rfl, trivial⟩ rfl rfl rfl (fun i => rfl) (fun i => rfl) rfl rfl rfl ?_ ?_ ?_
  · intro W1 ρ l0 i o hi hgo
    refine G.seqR tfine rfl trivial ?_
    refine G.reg tfine rfl trivial ⟨rfl, rfl, fun o' => ?_⟩
    refine G.block ?_
    refine G.seq ?_
    refine G.seqR tfine rfl ?_ ?_
    · first | trivial | (simp [AllP, condB]; done) | (simp only [AllP]; and_intros <;> first | trivial | decide | omega) | (simp [AllP, condB]; intros; and_intros <;> first | assumption | omega) | (simp [AllP, condB]; intros; simp_all; done)
    refine G.cond (b := fallsP l i && decide ((pt l (i + 1)).2 > (pt l i).2)) rfl (fun h4 => ?_) (fun h4 => ?_)
    · have hgi : go2 i = false := by rw [hgo2]; simp only [h4, Bool.not_true]
      refine G.seqR tfine rfl trivial ?_
      refine G.ret ⟨by rw [hgi]; rfl, rfl, ?_, ?_, trivial⟩
      · show some (boxB (28, [I 10])) = some (boxB (28, [stopV go2 (I 0) (I 10) (i + 1)]))
        rw [stopV_no hgi]
      · show some (boxB (4, [.bool (fallsP l i)])) = some (boxB (4, [.bool (fallsP l (i + 1))]))
        rw [Bool.and_eq_true] at h4
        rw [fallsP, h4.1]; rfl
    · have hgi : go2 i = true := by rw [hgo2]; simp only [h4, Bool.not_false]
      refine G.skip ?_
      refine G.reg tfine rfl ?_ ⟨by rw [hgi]; rfl, rfl, ?_, rfl, trivial⟩
      · first | trivial | (simp [AllP, condB]; done) | (simp only [AllP]; and_intros <;> first | trivial | decide | omega) | (simp [AllP, condB]; intros; and_intros <;> first | assumption | omega) | (simp [AllP, condB]; intros; simp_all; done)
      show some (boxB (28, [stopV go2 (I 0) (I 10) i])) = some (boxB (28, [stopV go2 (I 0) (I 10) (i + 1)]))
      rw [stopV_yes hgi, stopV_go hgo]
  · intro hall2 D2 hD2 hlt2
    refine GR.seqR rfl tfine rfl trivial ?_
    refine GR.of rfl (G.ret (endM2 tfine 821 D 822 D2 (.inl rfl) rfl hD hD2 (hlt2 821 _ _ rfl D rfl) rfl rfl rfl fun w' hf => ⟨?_, hf.toBelow⟩))
    have hd2 : pWave l = false := any_range_no fun i hi => by have := hall2 i hi; rw [hgo2] at this; simp only [Bool.not_eq_true'] at this; exact this
    rw [hE, hd2]; rfl
  · intro i hi hgo hgi D2 hD2 hlt2
    refine endM2 tfine 821 D 822 D2 (.inl rfl) rfl hD hD2 (hlt2 821 _ _ rfl D rfl) rfl rfl rfl fun w' hf => ⟨?_, hf.toBelow⟩
    have h4 : (fallsP l i && decide ((pt l (i + 1)).2 > (pt l i).2)) = true := by rw [hgo2] at hgi; simpa using hgi
    rw [hE, if_pos (show pWave l = true from any_range (p := fun i => fallsP l i && decide ((pt l (i + 1)).2 > (pt l i).2)) hi h4), stopV_no hgi]
end Go.Proofs.YtphipfmidfoflaaGreat
/- Top: lengths and radii of profiles. -/
set_option linter.unusedVariables false
set_option linter.unusedSimpArgs false
set_option maxRecDepth 8000
set_option maxHeartbeats 1000000
namespace Go.Proofs.YtphipfmidfoflaaGreat
open Go.Sx Go.RowKit
structure ProfOK (l : List (Int × Int)) : Prop where
  two : 2 ≤ l.length
  most : l.length ≤ 32
  x0 : ∀ i, i < l.length → 0 ≤ (pt l i).1 ∧ (pt l i).1 ≤ 100000
  r0 : ∀ i, i < l.length → 1 ≤ (pt l i).2 ∧ (pt l i).2 ≤ 100000
  zero : (pt l 0).1 = 0
  up : ∀ i, i + 1 < l.length → (pt l i).1 < (pt l (i + 1)).1
  wave : pWave l = false
theorem any_pt {l : List (Int × Int)} {q : Int × Int → Bool} (h : l.any q = false) {i : Nat} (hi : i < l.length) : q (pt l i) = false := by
  rw [List.any_eq_false] at h
  have := h _ (getD_mem (d := (0, 0)) hi)
  simpa using this
theorem range_any {p : Nat → Bool} {n : Nat} (h : (List.range n).any p = false) {i : Nat} (hi : i < n) : p i = false := by
  rw [List.any_eq_false] at h
  have := h i (List.mem_range.2 hi)
  simpa using this
theorem profE_ok {l : List (Int × Int)} (h : profE l = 0) : ProfOK l := by
  unfold profE at h
  by_cases h1 : decide ((l.length : Int) < 2) = true
  · rw [if_pos h1] at h; cases h
  rw [if_neg h1] at h
  by_cases h2 : decide ((l.length : Int) > 32) = true
  · rw [if_pos h2] at h; cases h
  rw [if_neg h2] at h
  by_cases h3 : l.any badX = true
  · rw [if_pos h3] at h; cases h
  rw [if_neg h3] at h
  by_cases h4 : ((pt l 0).1 != 0) = true
  · rw [if_pos h4] at h; cases h
  rw [if_neg h4] at h
  by_cases h5 : pDown l = true
  · rw [if_pos h5] at h; cases h
  rw [if_neg h5] at h
  by_cases h6 : l.any zeroR = true
  · rw [if_pos h6] at h; cases h
  rw [if_neg h6] at h
  by_cases h7 : pWave l = true
  · rw [if_pos h7] at h; cases h
  have h1 := of_decide_eq_false (Bool.eq_false_iff.2 h1)
  have h2 := of_decide_eq_false (Bool.eq_false_iff.2 h2)
  have h3 := Bool.eq_false_iff.2 h3
  have h5 := Bool.eq_false_iff.2 h5
  have h6 := Bool.eq_false_iff.2 h6
  have h7 := Bool.eq_false_iff.2 h7
  have hx : ∀ i, i < l.length → (0 ≤ (pt l i).1 ∧ (pt l i).1 ≤ 100000) ∧ 0 ≤ (pt l i).2 ∧ (pt l i).2 ≤ 100000 := by
    intro i hi
    have := any_pt h3 hi
    unfold badX profile_Check_1 profile_measure at this
    simp only [Bool.or_eq_false_iff, Bool.not_eq_false', Bool.and_eq_true, decide_eq_true_eq] at this
    exact ⟨⟨this.1.1, this.1.2⟩, this.2.1, this.2.2⟩
  refine ⟨by omega, by omega, fun i hi => (hx i hi).1, fun i hi => ⟨?_, (hx i hi).2.2⟩, by simpa using h4, fun i hi => ?_, h7⟩
  · have := any_pt h6 hi
    unfold zeroR profile_Check_2 at this
    have h8 := (hx i hi).2.1
    have h9 : ¬ (pt l i).2 = 0 := by simpa using this
    omega
  · have := range_any (p := fun i => decide ((pt l i).1 ≥ (pt l (i + 1)).1)) h5 (show i < l.length - 1 by omega)
    have := of_decide_eq_false this
    omega
theorem profE_of {l : List (Int × Int)} (h : (profE l != 0) = false) : 2 ≤ l.length := (profE_ok (by simpa using h)).two
theorem profE_of0 {l : List (Int × Int)} (h : (profE l != 0) = false) : profE l = 0 := by simpa using h
def lenP (l : List (Int × Int)) : Int := (pt l (l.length - 1)).1
theorem profile_length_any (A : Option Addr) (c : Nat) (l : List (Int × Int)) (w : World) (hl : RdRow w A l.length 2 (elP l)) (hn : l.length ≤ 100000) (h0 : 0 < l.length) : Calls Tryz.prog 52 #[.slice A l.length c] w fun e w' => e = .returned (I (lenP l)) ∧ Below w.heap.size w w' := by
  refine enterPlain tfine Tryz.func52 rfl 10 Tryz.ntmps52 [.c (.inp 1000 A l.length c)] [⟨1000, A, 2, l.length, elP l⟩] rfl rfl ⟨hl, trivial⟩ ⟨.inl ⟨rfl, rfl, rfl⟩, trivial⟩ ?_
  have e : IntKind.i64.wrap ((l.length : Int) - 1) = ((l.length - 1 : Nat) : Int) := by rw [show (l.length : Int) - 1 = ((l.length - 1 : Nat) : Int) by omega]; exact IntWalk.i64_in _ (by omega)
  refine G.seqR tfine rfl trivial ?_
  refine G.seqR tfine rfl ?_ ?_
  · simp only [AllP, e]
    and_intros <;> first | trivial | omega
  refine G.ret (endK.ret rfl ?_)
  show I (pt l (IntKind.i64.wrap ((l.length : Int) - 1)).toNat).1 = _
  rw [e, Int.toNat_natCast]; rfl
/-- the bung among the first points -/
def bungN (l : List (Int × Int)) : Nat → Nat
  | 0 => 0
  | i + 1 => if (pt l i).2 > (pt l (bungN l i)).2 then i else bungN l i
theorem bungN_lt (l : List (Int × Int)) (h : 0 < l.length) : ∀ i, i ≤ l.length → bungN l i < l.length
  | 0, _ => h
  | i + 1, hi => by
    unfold bungN
    split
    · omega
    · exact bungN_lt l h i (by omega)
def bungM (l : List (Int × Int)) : Int × Int := if (profE l != 0) = true then (0, profE l) else ((bungN l l.length : Nat), 0)
theorem bung_any (A : Option Addr) (c : Nat) (l : List (Int × Int)) (w : World) (hl : RdRow w A l.length 2 (elP l)) (hn : l.length ≤ 100000) : Calls Tryz.prog 25 #[.slice A l.length c] w fun e w' => e = .returned (.tuple #[I (bungM l).1, I (bungM l).2]) ∧ Below w.heap.size w w' := by
  refine enterPlain tfine Tryz.func25 rfl 31 Tryz.ntmps25 [.c (.inp 1000 A l.length c)] [⟨1000, A, 2, l.length, elP l⟩] rfl rfl ⟨hl, trivial⟩ ⟨.inl ⟨rfl, rfl, rfl⟩, trivial⟩ ?_
  refine G.seqR tfine rfl trivial ?_
  refine G.seq ?_
  refine G.seqC tfine rfl trivial ?_
  refine GO.callPlain (v := I (profE l)) rfl rfl rfl rfl (fun args w => Tryz.call51 args w) (fun ρ w hs hok => profCheck_any A c l w (hs.row (cap := c) rfl (hok _ List.mem_cons_self)) hn) ?_
  refine GO.fin tfine rfl trivial ?_
  refine G.seqR tfine rfl trivial ?_
  refine G.cond (b := profE l != 0) rfl (fun h1 => ?_) (fun h1 => ?_)
  · refine G.seqR tfine rfl trivial ?_
    refine G.ret (endK.ret rfl ?_)
    rw [bungM, if_pos h1]
  refine G.skip ?_
  have h2 := profE_of h1
  refine G.seqR tfine rfl trivial ?_
  refine G.seq (G.seqR tfine rfl trivial ?_)
  refine G.block (G.loop (fun k : Nat => St.of [(0, .v (.c (.inp 1000 A l.length c))), (5, .v (.c (.k (I (bungN l k))))), (13, .v (.c (.inp 1000 A l.length c))), (14, .v (.c (.k (I l.length)))), (15, .v (.c (.k (I k))))] [(1000, .ro 2 l.length (elP l))])
    (fun k => k ≤ l.length) (fun k => l.length - k) 0 (Nat.zero_le _) (St.le_of rfl ⟨⟨_, rfl, Blk.le_refl _⟩, trivial⟩ ⟨rfl, rfl, rfl, rfl, rfl, trivial⟩) ?_)
  intro k hk
  refine G.seqR tfine rfl trivial ?_
  refine G.seq (G.cond (b := decide ((k : Int) < (l.length : Int))) rfl (fun h3 => ?_) (fun h3 => ?_))
  rotate_left
  · have h3 := of_decide_eq_false h3
    have : k = l.length := by omega
    subst this
    refine G.exit ?_
    refine G.seqR tfine rfl trivial ?_
    refine G.ret (endK.ret rfl ?_)
    rw [bungM, if_neg (fne h1)]
  have h3 := of_decide_eq_true h3
  have hlt : k < l.length := by omega
  have hb := bungN_lt l (by omega) k hk
  refine G.skip ?_
  refine G.seq (G.block ?_)
  refine G.seqR tfine rfl ?_ ?_
  · first | trivial | (simp [AllP, condB]; done) | (simp only [AllP]; and_intros <;> first | trivial | decide | omega) | (simp [AllP, condB]; intros; and_intros <;> first | assumption | omega) | (simp [AllP, condB]; intros; simp_all; done)
  refine G.seqD tfine hmix [0, 1, 0, 0, 12, 28, 60, 127] [] rfl rfl rfl rfl ?_ ?_
  · first | trivial | (simp [AllP, condB]; done) | (simp only [AllP]; and_intros <;> first | trivial | decide | omega) | (simp [AllP, condB]; intros; and_intros <;> first | assumption | omega) | (simp [AllP, condB]; intros; simp_all; done)
  have hw : IntKind.i64.wrap ((k : Int) + 1) = ((k + 1 : Nat) : Int) := IntWalk.i64_in _ (by omega)
  refine G.cond (b := decide ((pt l k).2 > (pt l (bungN l k)).2)) rfl (fun h4 => ?_) (fun h4 => ?_)
  · have h4 := of_decide_eq_true h4
    refine G.reg tfine rfl trivial ?_
    refine G.reg tfine rfl trivial ?_
    refine ⟨k + 1, hlt, (by show l.length - (k + 1) < l.length - k; omega), St.le_of rfl ⟨⟨_, rfl, Blk.le_refl _⟩, trivial⟩ ⟨rfl, ?_, rfl, rfl, ?_, trivial⟩⟩
    · show _ = TV.v (.c (.k (I ((bungN l (k + 1) : Nat) : Int))))
      rw [bungN, if_pos h4]; rfl
    · simp [up, I]; exact hw
  · have h4 := of_decide_eq_false h4
    refine G.skip ?_
    refine G.reg tfine rfl trivial ?_
    refine ⟨k + 1, hlt, (by show l.length - (k + 1) < l.length - k; omega), St.le_of rfl ⟨⟨_, rfl, Blk.le_refl _⟩, trivial⟩ ⟨rfl, ?_, rfl, rfl, ?_, trivial⟩⟩
    · show _ = TV.v (.c (.k (I ((bungN l (k + 1) : Nat) : Int))))
      rw [bungN, if_neg h4]; rfl
    · simp [up, I]; exact hw
/-- the radius on a stave -/
def atV (l : List (Int × Int)) (x : Int) (i : Nat) : Int × Int :=
  let h := IntKind.i64.wrap ((pt l (i + 1)).1 - (pt l i).1)
  let n := IntKind.i64.wrap (IntKind.i64.wrap ((pt l i).2 * IntKind.i64.wrap ((pt l (i + 1)).1 - x)) + IntKind.i64.wrap ((pt l (i + 1)).2 * IntKind.i64.wrap (x - (pt l i).1)))
  (IntKind.i64.wrap (n.tdiv h), IntKind.i64.wrap ((IntKind.i64.wrap (IntKind.i64.wrap (n + h) - 1)).tdiv h))
def atM (l : List (Int × Int)) (x : Int) : Int × Int := match (List.range (l.length - 1)).find? (fun i => !decide (x > (pt l (i + 1)).1)) with
  | some i => atV l x i
  | none => (0, 0)
theorem find_range {p : Nat → Bool} {n i : Nat} (hi : i < n) (hp : p i = true) (hno : ∀ j, j < i → p j = false) : (List.range n).find? p = some i := by
  rw [List.find?_range_eq_some]
  exact ⟨hp, List.mem_range.2 hi, fun j hj => by rw [hno j hj]; rfl⟩
theorem find_range_no {p : Nat → Bool} {n : Nat} (hno : ∀ j, j < n → p j = false) : (List.range n).find? p = none := by
  rw [List.find?_eq_none]
  intro x hx
  rw [hno x (List.mem_range.1 hx)]
  exact Bool.false_ne_true
theorem profile_at_any (A : Option Addr) (c : Nat) (l : List (Int × Int)) (x : Int) (w : World) (h : RdRow w A l.length 2 (elP l)) (hn : l.length ≤ 100000) (hE : profE l = 0) : Calls Tryz.prog 115 #[.slice A l.length c, I x] w fun e w' => e = .returned (.agg #[I (atM l x).1, I (atM l x).2]) ∧ Below w.heap.size w w' := by
  have hok := profE_ok hE
  refine enterGR [] [.c (.k (.slice A l.length c)), .c (.k (I x))] [(801, .say (sb (.slice A l.length c)) (fun w => RdRow w A l.length 2 (elP l)))] Tryz.func115 rfl 48 Tryz.ntmps115 rfl rfl ⟨trivial, trivial, trivial⟩ ⟨⟨h, sb_lt h, steady_row⟩, trivial, trivial⟩ ?_
  refine GR.seqR rfl tfine rfl trivial ?_
  refine GR.seq2 rfl (G.regC tfine rfl trivial ?_)
  refine GO.callSayX 801 811 (itV 111) (fun g k => k = g ∨ sb (.slice A l.length c) k) (itP A c l) rfl rfl rfl rfl rfl rfl (fun args w => Tryz.call89 args w) (fun ρ w1 hs hok => staves_say A c l w1 (hs.ok 801 _ rfl).1 hn) fun g => ?_
  refine GO.nil ?_
  obtain ⟨go, hgo0⟩ : ∃ go : Nat → Bool, go = fun i => decide (x > (pt l (i + 1)).1) := ⟨_, rfl⟩
  refine GR.rangeK rfl 811 821 [⟨4, 33, kL fun i => [stopW go (I 0) (fun i => I (atV l x i).1) i, stopW go (I 0) (fun i => I (atV l x i).2) i]⟩, ⟨3, 3, kL fun _ => [I x]⟩] go [11, 12] (fun i => [.agg #[I (pt l i).1, I (pt l i).2], .agg #[I (pt l (i + 1)).1, I (pt l (i + 1)).2]])
      rfl rfl (fun w h => h) (fun k h => h) ⟨rfl, rfl, trivial⟩ ⟨fun i => rfl, fun i => rfl, trivial⟩ rfl rfl rfl (fun i => rfl) (fun i => rfl) rfl rfl rfl ?_ ?_ ?_
  · intro W1 ρ l0 i o hi hgo
    have hup := hok.up i (by omega)
    have hx0 := hok.x0 i (by omega)
    have hx1 := hok.x0 (i + 1) (by omega)
    have hne : IntKind.i64.wrap ((pt l (i + 1)).1 - (pt l i).1) ≠ 0 := by rw [IntWalk.i64_in _ (by omega)]; omega
    refine G.seqR tfine rfl trivial ?_
    refine G.reg tfine rfl trivial ⟨rfl, rfl, fun o' => ?_⟩
    refine G.block ?_
    refine G.seq ?_
    refine G.seqR tfine rfl trivial ?_
    refine G.cond (b := decide (x > (pt l (i + 1)).1)) rfl (fun h4 => ?_) (fun h4 => ?_)
    · have hgi : go i = true := by rw [hgo0]; exact h4
      refine G.exit ⟨by rw [hgi]; rfl, rfl, ?_, rfl, trivial⟩
      show some (boxB (33, [stopW go (I 0) (fun i => I (atV l x i).1) i, stopW go (I 0) (fun i => I (atV l x i).2) i])) = some (boxB (33, [stopW go (I 0) (fun i => I (atV l x i).1) (i + 1), stopW go (I 0) (fun i => I (atV l x i).2) (i + 1)]))
      rw [stopW_yes hgi, stopW_yes hgi, stopW_go hgo, stopW_go hgo]
    · have hgi : go i = false := by rw [hgo0]; exact h4
      refine G.skip ?_
      refine G.seqR tfine rfl trivial ?_
      refine G.seqR tfine rfl trivial ?_
      refine G.seqD tfine hmix [0, 0, 3, 0, 0, 24, 56, 0, 248, 511, 1023] [(10, 1500)] rfl rfl rfl rfl ⟨hne, hne, trivial⟩ ?_
      refine G.ret ⟨by rw [hgi]; rfl, rfl, ?_, rfl, trivial⟩
      show _ = some (boxB (33, [stopW go (I 0) (fun i => I (atV l x i).1) (i + 1), stopW go (I 0) (fun i => I (atV l x i).2) (i + 1)]))
      rw [stopW_no hgi, stopW_no hgi]; rfl
  · intro hall D hD hlt
    refine GR.seqR rfl tfine rfl trivial ?_
    refine GR.of rfl (G.ret (endM1 tfine 821 D (.inl rfl) rfl hD rfl rfl fun w' hf => ⟨?_, hf.toBelow⟩))
    rw [atM, find_range_no fun j hj => by have := hall j hj; rw [hgo0] at this; simp only [this]; rfl]
  · intro i hi hgo hgi D hD hlt
    have e1 : atM l x = atV l x i := by
      rw [atM, find_range (i := i) hi (by rw [hgo0] at hgi; simp only [hgi]; rfl) fun j hj => by have := hgo j hj; rw [hgo0] at this; simp only [this]; rfl]
    refine endM1 tfine 821 D (.inl rfl) rfl hD rfl rfl fun w' hf => ⟨?_, hf.toBelow⟩
    rw [e1, stopW_no hgi, stopW_no hgi]
def profile_Length (l0 : List (Int × Int)) : Int × Int := if ((profE l0) != (0 : Int)) = true then ((0 : Int), profE l0) else (lenP l0, (0 : Int))
theorem profile_Length_any (A0 : Option Addr) (c0 : Nat) (l0 : List (Int × Int)) (w : World) (hl_l0 : RdRow w A0 l0.length 2 (elP l0)) (hm_l0 : l0.length ≤ 100000) : Calls Tryz.prog 26 #[.slice A0 l0.length c0] w fun e w' => e = .returned (.tuple #[I ((profile_Length l0).1), I ((profile_Length l0).2)]) ∧ Below w.heap.size w w' := by
  refine enterPlain tfine Tryz.func26 rfl 12 Tryz.ntmps26 [.c (.inp 1000 A0 l0.length c0)] [⟨1000, A0, 2, l0.length, elP l0⟩] rfl rfl ⟨hl_l0, trivial⟩ ⟨.inl ⟨rfl, rfl, rfl⟩, trivial⟩ ?_
  refine G.seqR tfine rfl ?_ ?_
  · first | trivial | (simp [AllP, condB]; done) | (simp only [AllP]; and_intros <;> first | trivial | decide | omega) | (simp [AllP, condB]; intros; and_intros <;> first | assumption | omega) | (simp [AllP, condB]; intros; simp_all; done) | (simp [AllP, condB]; intros; simp_all; omega) | (simp [AllP, condB]; omega)
  refine G.seq ?_
  refine G.seqC tfine rfl ?_ ?_
  · first | trivial | (simp [AllP, condB]; done) | (simp only [AllP]; and_intros <;> first | trivial | decide | omega) | (simp [AllP, condB]; intros; and_intros <;> first | assumption | omega) | (simp [AllP, condB]; intros; simp_all; done) | (simp [AllP, condB]; intros; simp_all; omega) | (simp [AllP, condB]; omega)
  refine GO.callPlain (v := I (profE l0))  rfl rfl rfl rfl (fun args w => Tryz.call51 args w) (fun ρ w hs hok => profCheck_any A0 c0 l0 w (hs.row (cap := c0) rfl (hok _ List.mem_cons_self)) hm_l0) ?_
  refine GO.fin tfine rfl ?_ ?_
  · first | trivial | (simp [AllP, condB]; done) | (simp only [AllP]; and_intros <;> first | trivial | decide | omega) | (simp [AllP, condB]; intros; and_intros <;> first | assumption | omega) | (simp [AllP, condB]; intros; simp_all; done) | (simp [AllP, condB]; intros; simp_all; omega) | (simp [AllP, condB]; omega)
  refine G.seqR tfine rfl ?_ ?_
  · first | trivial | (simp [AllP, condB]; done) | (simp only [AllP]; and_intros <;> first | trivial | decide | omega) | (simp [AllP, condB]; intros; and_intros <;> first | assumption | omega) | (simp [AllP, condB]; intros; simp_all; done) | (simp [AllP, condB]; intros; simp_all; omega) | (simp [AllP, condB]; omega)
  refine G.cond (b := (profE l0) != (0 : Int)) rfl (fun h1 => ?_) (fun h1 => ?_)
  · refine G.seqR tfine rfl ?_ ?_
    · first | trivial | (simp [AllP, condB]; done) | (simp only [AllP]; and_intros <;> first | trivial | decide | omega) | (simp [AllP, condB]; intros; and_intros <;> first | assumption | omega) | (simp [AllP, condB]; intros; simp_all; done) | (simp [AllP, condB]; intros; simp_all; omega) | (simp [AllP, condB]; omega)
    refine G.ret (endK.ret rfl ?_)
    first | (rw [profile_Length, if_pos h1]; done) | (rw [profile_Length, if_pos h1]; rfl)
  refine G.skip ?_
  refine G.seqC tfine rfl ?_ ?_
  · first | trivial | (simp [AllP, condB]; done) | (simp only [AllP]; and_intros <;> first | trivial | decide | omega) | (simp [AllP, condB]; intros; and_intros <;> first | assumption | omega) | (simp [AllP, condB]; intros; simp_all; done) | (simp [AllP, condB]; intros; simp_all; omega) | (simp [AllP, condB]; omega)
  refine GO.callPlain (v := I (lenP l0))  rfl rfl rfl rfl (fun args w => Tryz.call52 args w) (fun ρ w hs hok => profile_length_any A0 c0 l0 w (hs.row (cap := c0) rfl (hok _ List.mem_cons_self)) hm_l0 (by have h9 := profE_of h1; omega)) ?_
  refine GO.fin tfine rfl ?_ ?_
  · first | trivial | (simp [AllP, condB]; done) | (simp only [AllP]; and_intros <;> first | trivial | decide | omega) | (simp [AllP, condB]; intros; and_intros <;> first | assumption | omega) | (simp [AllP, condB]; intros; simp_all; done) | (simp [AllP, condB]; intros; simp_all; omega) | (simp [AllP, condB]; omega)
  refine G.ret (endK.ret rfl ?_)
  first | (rw [profile_Length, if_neg (fne h1)]; done) | (rw [profile_Length, if_neg (fne h1)]; rfl)
def profile_At (l0 : List (Int × Int)) (x1 : Int) : Int × Int × Int := if ((profE l0) != (0 : Int)) = true then ((0 : Int), (0 : Int), (1 : Int)) else if ((decide (x1 < (0 : Int))) || (decide (x1 > (lenP l0)))) = true then ((0 : Int), (0 : Int), (2 : Int)) else ((atM l0 x1).1, (atM l0 x1).2, (0 : Int))
theorem profile_At_any (A0 : Option Addr) (c0 : Nat) (l0 : List (Int × Int)) (x1 : Int) (w : World) (hl_l0 : RdRow w A0 l0.length 2 (elP l0)) (hm_l0 : l0.length ≤ 100000) : Calls Tryz.prog 95 #[.slice A0 l0.length c0, I x1] w fun e w' => e = .returned (.tuple #[.agg #[I ((profile_At l0 x1).1), I ((profile_At l0 x1).2.1)], I ((profile_At l0 x1).2.2)]) ∧ Below w.heap.size w w' := by
  refine enterPlain tfine Tryz.func95 rfl 22 Tryz.ntmps95 [.c (.inp 1000 A0 l0.length c0), .c (.k (I x1))] [⟨1000, A0, 2, l0.length, elP l0⟩] rfl rfl ⟨hl_l0, trivial⟩ ⟨.inl ⟨rfl, rfl, rfl⟩, trivial, trivial⟩ ?_
  refine G.seqR tfine rfl ?_ ?_
  · first | trivial | (simp [AllP, condB]; done) | (simp only [AllP]; and_intros <;> first | trivial | decide | omega) | (simp [AllP, condB]; intros; and_intros <;> first | assumption | omega) | (simp [AllP, condB]; intros; simp_all; done) | (simp [AllP, condB]; intros; simp_all; omega) | (simp [AllP, condB]; omega)
  refine G.seq ?_
  refine G.seqC tfine rfl ?_ ?_
  · first | trivial | (simp [AllP, condB]; done) | (simp only [AllP]; and_intros <;> first | trivial | decide | omega) | (simp [AllP, condB]; intros; and_intros <;> first | assumption | omega) | (simp [AllP, condB]; intros; simp_all; done) | (simp [AllP, condB]; intros; simp_all; omega) | (simp [AllP, condB]; omega)
  refine GO.callPlain (v := I (profE l0))  rfl rfl rfl rfl (fun args w => Tryz.call51 args w) (fun ρ w hs hok => profCheck_any A0 c0 l0 w (hs.row (cap := c0) rfl (hok _ List.mem_cons_self)) hm_l0) ?_
  refine GO.fin tfine rfl ?_ ?_
  · first | trivial | (simp [AllP, condB]; done) | (simp only [AllP]; and_intros <;> first | trivial | decide | omega) | (simp [AllP, condB]; intros; and_intros <;> first | assumption | omega) | (simp [AllP, condB]; intros; simp_all; done) | (simp [AllP, condB]; intros; simp_all; omega) | (simp [AllP, condB]; omega)
  refine G.cond (b := (profE l0) != (0 : Int)) rfl (fun h1 => ?_) (fun h1 => ?_)
  · refine G.seqR tfine rfl ?_ ?_
    · first | trivial | (simp [AllP, condB]; done) | (simp only [AllP]; and_intros <;> first | trivial | decide | omega) | (simp [AllP, condB]; intros; and_intros <;> first | assumption | omega) | (simp [AllP, condB]; intros; simp_all; done) | (simp [AllP, condB]; intros; simp_all; omega) | (simp [AllP, condB]; omega)
    refine G.ret (endK.ret rfl ?_)
    first | (rw [profile_At, if_pos h1]; done) | (rw [profile_At, if_pos h1]; rfl)
  refine G.skip ?_
  refine G.seq ?_
  refine G.seqC tfine rfl ?_ ?_
  · first | trivial | (simp [AllP, condB]; done) | (simp only [AllP]; and_intros <;> first | trivial | decide | omega) | (simp [AllP, condB]; intros; and_intros <;> first | assumption | omega) | (simp [AllP, condB]; intros; simp_all; done) | (simp [AllP, condB]; intros; simp_all; omega) | (simp [AllP, condB]; omega)
  refine GO.callGuard (I (lenP l0)) rfl rfl rfl (by first | exact trivial | exact ⟨id, trivial⟩ | exact ⟨id, id, trivial⟩ | exact ⟨id, id, id, trivial⟩ | exact ⟨id, id, id, id, trivial⟩) rfl rfl (fun args w => Tryz.call52 args w) rfl (fun _ m' hle ρ w hs hok => profile_length_any A0 c0 l0 w (hs.row (cap := c0) (hle.at rfl) (hok _ List.mem_cons_self)) hm_l0 (by have h9 := profE_of h1; omega)) ?_
  refine GO.fin tfine rfl ?_ ?_
  · first | trivial | (simp [AllP, condB]; done) | (simp only [AllP]; and_intros <;> first | trivial | decide | omega) | (simp [AllP, condB]; intros; and_intros <;> first | assumption | omega) | (simp [AllP, condB]; intros; simp_all; done) | (simp [AllP, condB]; intros; simp_all; omega) | (simp [AllP, condB]; omega)
  refine G.cond (b := (decide (x1 < (0 : Int))) || (decide (x1 > (lenP l0)))) rfl (fun h2 => ?_) (fun h2 => ?_)
  · refine G.seqR tfine rfl ?_ ?_
    · first | trivial | (simp [AllP, condB]; done) | (simp only [AllP]; and_intros <;> first | trivial | decide | omega) | (simp [AllP, condB]; intros; and_intros <;> first | assumption | omega) | (simp [AllP, condB]; intros; simp_all; done) | (simp [AllP, condB]; intros; simp_all; omega) | (simp [AllP, condB]; omega)
    refine G.ret (endK.ret rfl ?_)
    first | (rw [profile_At, if_neg (fne h1), if_pos h2]; done) | (rw [profile_At, if_neg (fne h1), if_pos h2]; rfl)
  refine G.skip ?_
  refine G.seqC tfine rfl ?_ ?_
  · first | trivial | (simp [AllP, condB]; done) | (simp only [AllP]; and_intros <;> first | trivial | decide | omega) | (simp [AllP, condB]; intros; and_intros <;> first | assumption | omega) | (simp [AllP, condB]; intros; simp_all; done) | (simp [AllP, condB]; intros; simp_all; omega) | (simp [AllP, condB]; omega)
  refine GO.callPlain (v := .agg #[I ((atM l0 x1).1), I ((atM l0 x1).2)])  rfl rfl rfl rfl (fun args w => Tryz.call115 args w) (fun ρ w hs hok => profile_at_any A0 c0 l0 _ w (hs.row (cap := c0) rfl (hok _ List.mem_cons_self)) hm_l0 (profE_of0 h1)) ?_
  refine GO.fin tfine rfl ?_ ?_
  · first | trivial | (simp [AllP, condB]; done) | (simp only [AllP]; and_intros <;> first | trivial | decide | omega) | (simp [AllP, condB]; intros; and_intros <;> first | assumption | omega) | (simp [AllP, condB]; intros; simp_all; done) | (simp [AllP, condB]; intros; simp_all; omega) | (simp [AllP, condB]; omega)
  refine G.ret (endK.ret rfl ?_)
  first | (rw [profile_At, if_neg (fne h1), if_neg (fne h2)]; done) | (rw [profile_At, if_neg (fne h1), if_neg (fne h2)]; rfl)
end Go.Proofs.YtphipfmidfoflaaGreat
/- Top: casks. -/
set_option linter.unusedVariables false
set_option linter.unusedSimpArgs false
set_option maxRecDepth 8000
set_option maxHeartbeats 1000000
namespace Go.Proofs.YtphipfmidfoflaaGreat
open Go.Sx Go.RowKit
/-! ### Names -/
def nameCh (c : Int) : Bool := ((((decide (c ≥ 97) && decide (c ≤ 122)) || (decide (c ≥ 65) && decide (c ≤ 90))) || (decide (c ≥ 48) && decide (c ≤ 57))) || c == 45) || c == 46
def cask_named (s : ByteArray) : Bool := if (decide ((s.size : Int) < 1) || decide ((s.size : Int) > 64)) = true then false else (List.range s.size).all fun i => nameCh (strAt s i : Nat)
theorem all_range_no {p : Nat → Bool} {n i : Nat} (hi : i < n) (h : p i = false) : (List.range n).all p = false := by
  rw [List.all_eq_false]
  exact ⟨i, List.mem_range.2 hi, by rw [h]; exact Bool.false_ne_true⟩
theorem all_range {p : Nat → Bool} {n : Nat} (h : ∀ i, i < n → p i = true) : (List.range n).all p = true := by
  rw [List.all_eq_true]
  exact fun i hi => h i (List.mem_range.1 hi)
theorem cask_named_any (s : ByteArray) (w : World) : Calls Tryz.prog 50 #[.string s] w fun e w' => e = .returned (.bool (cask_named s)) ∧ Below w.heap.size w w' := by
  refine enterPlain tfine Tryz.func50 rfl 53 Tryz.ntmps50 [.c (.k (.string s))] [] rfl rfl trivial ⟨trivial, trivial⟩ ?_
  refine G.seqR tfine rfl trivial ?_
  refine G.seq ?_
  refine G.seqR tfine rfl ?_ ?_
  · first | trivial | (simp [AllP, condB]; done) | (simp only [AllP]; and_intros <;> first | trivial | decide | omega) | (simp [AllP, condB]; intros; and_intros <;> first | assumption | omega) | (simp [AllP, condB]; intros; simp_all; done)
  refine G.cond (b := decide ((s.size : Int) < 1) || decide ((s.size : Int) > 64)) rfl (fun h1 => ?_) (fun h1 => ?_)
  · refine G.seqR tfine rfl trivial ?_
    refine G.ret (endK.ret rfl ?_)
    rw [cask_named, if_pos h1]
  refine G.skip ?_
  have hsz : s.size ≤ 64 := by
    simp only [Bool.or_eq_false_iff, decide_eq_false_iff_not] at h1
    omega
  refine G.seq (G.seqR tfine rfl trivial ?_)
  refine G.block (G.loop (fun k : Nat => St.of [(0, .v (.c (.k (.string s)))), (14, .v (.c (.k (I s.size)))), (15, .v (.c (.k (I k))))] [])
    (fun k => k ≤ s.size ∧ ∀ j, j < k → nameCh (strAt s j : Nat) = true) (fun k => s.size - k) 0 ⟨Nat.zero_le _, fun j hj => absurd hj (Nat.not_lt_zero j)⟩ (St.le_of rfl trivial ⟨rfl, rfl, rfl, trivial⟩) ?_)
  rintro k ⟨hk, hall⟩
  refine G.seqR tfine rfl trivial ?_
  refine G.seq (G.cond (b := decide ((k : Int) < (s.size : Int))) rfl (fun h3 => ?_) (fun h3 => ?_))
  rotate_left
  · have h3 := of_decide_eq_false h3
    have : k = s.size := by omega
    subst this
    refine G.exit ?_
    refine G.seqR tfine rfl trivial ?_
    refine G.ret (endK.ret rfl ?_)
    rw [cask_named, if_neg (fne h1), all_range hall]
  have h3 := of_decide_eq_true h3
  have hlt : k < s.size := by omega
  refine G.skip ?_
  refine G.seq (G.block ?_)
  refine G.seqR tfine rfl trivial ?_
  refine G.seqR tfine rfl ?_ ?_
  · first | trivial | (simp [AllP, condB]; done) | (simp only [AllP]; and_intros <;> first | trivial | decide | omega) | (simp [AllP, condB]; intros; and_intros <;> first | assumption | omega) | (simp [AllP, condB]; intros; simp_all; done)
  refine G.seqR tfine rfl ?_ ?_
  · simp only [AllP, condB]; and_intros <;> (intros; first | (simp_all; done) | (simp_all; omega))
  refine G.cond (b := !(nameCh (strAt s k : Nat))) rfl (fun h4 => ?_) (fun h4 => ?_)
  · refine G.seqR tfine rfl trivial ?_
    refine G.ret (endK.ret rfl ?_)
    have h4 : nameCh (strAt s k : Nat) = false := by simpa using h4
    rw [cask_named, if_neg (fne h1), all_range_no hlt h4]
  · have h4 : nameCh (strAt s k : Nat) = true := by simpa using h4
    refine G.skip ?_
    refine G.reg tfine rfl trivial ?_
    refine ⟨k + 1, ⟨hlt, fun j hj => ?_⟩, (by show s.size - (k + 1) < s.size - k; omega), St.le_of rfl trivial ⟨rfl, rfl, ?_, trivial⟩⟩
    · rcases Nat.lt_or_ge j k with h | h
      · exact hall j h
      · rw [show j = k by omega]; exact h4
    · simp [up, I]; rw [IntWalk.i64_in _ (by omega)]
def cask_Check (s0_0 : ByteArray) (x0_1 : Int) (l0_2 : List (Int × Int)) (x0_3 : Int) : Int := if (!(cask_named s0_0)) = true then ((4 : Int)) else if ((x0_1 != (1 : Int)) && (x0_1 != (2 : Int))) = true then ((2 : Int)) else if ((decide (x0_3 < (0 : Int))) || (decide (x0_3 > (1073741824 : Int)))) = true then ((2 : Int)) else (profE l0_2)
theorem cask_Check_any (s0_0 : ByteArray) (x0_1 : Int) (A0_2 : Option Addr) (c0_2 : Nat) (l0_2 : List (Int × Int)) (x0_3 : Int) (w : World) (hl_l0_2 : RdRow w A0_2 l0_2.length 2 (elP l0_2)) (hm_l0_2 : l0_2.length ≤ 100000) : Calls Tryz.prog 24 #[.agg #[.string s0_0, I x0_1, .slice A0_2 l0_2.length c0_2, I x0_3]] w fun e w' => e = .returned (I (cask_Check s0_0 x0_1 l0_2 x0_3)) ∧ Below w.heap.size w w' := by
  refine enterPlain tfine Tryz.func24 rfl 29 Tryz.ntmps24 [.agg [.k (.string s0_0), .k (I x0_1), .inp 1000 A0_2 l0_2.length c0_2, .k (I x0_3)]] [⟨1000, A0_2, 2, l0_2.length, elP l0_2⟩] rfl rfl ⟨hl_l0_2, trivial⟩ ⟨⟨trivial, trivial, .inl ⟨rfl, rfl, rfl⟩, trivial, trivial⟩, trivial⟩ ?_
  refine G.seqR tfine rfl ?_ ?_
  · first | trivial | (simp [AllP, condB]; done) | (simp only [AllP]; and_intros <;> first | trivial | decide | omega) | (simp [AllP, condB]; intros; and_intros <;> first | assumption | omega) | (simp [AllP, condB]; intros; simp_all; done) | (simp [AllP, condB]; intros; simp_all; omega) | (simp [AllP, condB]; omega)
  refine G.seq ?_
  refine G.block ?_
  refine G.seqC tfine rfl ?_ ?_
  · first | trivial | (simp [AllP, condB]; done) | (simp only [AllP]; and_intros <;> first | trivial | decide | omega) | (simp [AllP, condB]; intros; and_intros <;> first | assumption | omega) | (simp [AllP, condB]; intros; simp_all; done) | (simp [AllP, condB]; intros; simp_all; omega) | (simp [AllP, condB]; omega)
  refine GO.callPlain (v := .bool (cask_named s0_0))  rfl rfl rfl rfl (fun args w => Tryz.call50 args w) (fun ρ w hs hok => cask_named_any _ w) ?_
  refine GO.fin tfine rfl ?_ ?_
  · first | trivial | (simp [AllP, condB]; done) | (simp only [AllP]; and_intros <;> first | trivial | decide | omega) | (simp [AllP, condB]; intros; and_intros <;> first | assumption | omega) | (simp [AllP, condB]; intros; simp_all; done) | (simp [AllP, condB]; intros; simp_all; omega) | (simp [AllP, condB]; omega)
  refine G.cond (b := !(cask_named s0_0)) rfl (fun h1 => ?_) (fun h1 => ?_)
  · refine G.seqR tfine rfl ?_ ?_
    · first | trivial | (simp [AllP, condB]; done) | (simp only [AllP]; and_intros <;> first | trivial | decide | omega) | (simp [AllP, condB]; intros; and_intros <;> first | assumption | omega) | (simp [AllP, condB]; intros; simp_all; done) | (simp [AllP, condB]; intros; simp_all; omega) | (simp [AllP, condB]; omega)
    refine G.ret (endK.ret rfl ?_)
    first | (rw [cask_Check, if_pos h1]; done) | (rw [cask_Check, if_pos h1]; rfl)
  refine G.seqR tfine rfl ?_ ?_
  · first | trivial | (simp [AllP, condB]; done) | (simp only [AllP]; and_intros <;> first | trivial | decide | omega) | (simp [AllP, condB]; intros; and_intros <;> first | assumption | omega) | (simp [AllP, condB]; intros; simp_all; done) | (simp [AllP, condB]; intros; simp_all; omega) | (simp [AllP, condB]; omega)
  refine G.cond (b := (x0_1 != (1 : Int)) && (x0_1 != (2 : Int))) rfl (fun h2 => ?_) (fun h2 => ?_)
  · refine G.seqR tfine rfl ?_ ?_
    · first | trivial | (simp [AllP, condB]; done) | (simp only [AllP]; and_intros <;> first | trivial | decide | omega) | (simp [AllP, condB]; intros; and_intros <;> first | assumption | omega) | (simp [AllP, condB]; intros; simp_all; done) | (simp [AllP, condB]; intros; simp_all; omega) | (simp [AllP, condB]; omega)
    refine G.ret (endK.ret rfl ?_)
    first | (rw [cask_Check, if_neg (fne h1), if_pos h2]; done) | (rw [cask_Check, if_neg (fne h1), if_pos h2]; rfl)
  refine G.seqR tfine rfl ?_ ?_
  · first | trivial | (simp [AllP, condB]; done) | (simp only [AllP]; and_intros <;> first | trivial | decide | omega) | (simp [AllP, condB]; intros; and_intros <;> first | assumption | omega) | (simp [AllP, condB]; intros; simp_all; done) | (simp [AllP, condB]; intros; simp_all; omega) | (simp [AllP, condB]; omega)
  refine G.cond (b := (decide (x0_3 < (0 : Int))) || (decide (x0_3 > (1073741824 : Int)))) rfl (fun h3 => ?_) (fun h3 => ?_)
  · refine G.seqR tfine rfl ?_ ?_
    · first | trivial | (simp [AllP, condB]; done) | (simp only [AllP]; and_intros <;> first | trivial | decide | omega) | (simp [AllP, condB]; intros; and_intros <;> first | assumption | omega) | (simp [AllP, condB]; intros; simp_all; done) | (simp [AllP, condB]; intros; simp_all; omega) | (simp [AllP, condB]; omega)
    refine G.ret (endK.ret rfl ?_)
    first | (rw [cask_Check, if_neg (fne h1), if_neg (fne h2), if_pos h3]; done) | (rw [cask_Check, if_neg (fne h1), if_neg (fne h2), if_pos h3]; rfl)
  refine G.skip ?_
  refine G.seqC tfine rfl ?_ ?_
  · first | trivial | (simp [AllP, condB]; done) | (simp only [AllP]; and_intros <;> first | trivial | decide | omega) | (simp [AllP, condB]; intros; and_intros <;> first | assumption | omega) | (simp [AllP, condB]; intros; simp_all; done) | (simp [AllP, condB]; intros; simp_all; omega) | (simp [AllP, condB]; omega)
  refine GO.callPlain (v := I (profE l0_2))  rfl rfl rfl rfl (fun args w => Tryz.call51 args w) (fun ρ w hs hok => profCheck_any A0_2 c0_2 l0_2 w (hs.row (cap := c0_2) rfl (hok _ List.mem_cons_self)) hm_l0_2) ?_
  refine GO.fin tfine rfl ?_ ?_
  · first | trivial | (simp [AllP, condB]; done) | (simp only [AllP]; and_intros <;> first | trivial | decide | omega) | (simp [AllP, condB]; intros; and_intros <;> first | assumption | omega) | (simp [AllP, condB]; intros; simp_all; done) | (simp [AllP, condB]; intros; simp_all; omega) | (simp [AllP, condB]; omega)
  refine G.ret (endK.ret rfl ?_)
  first | (rw [cask_Check, if_neg (fne h1), if_neg (fne h2), if_neg (fne h3)]; done) | (rw [cask_Check, if_neg (fne h1), if_neg (fne h2), if_neg (fne h3)]; rfl)
theorem caskE_prof {s : ByteArray} {pos decl : Int} {l : List (Int × Int)} (h : cask_Check s pos l decl = 0) : profE l = 0 := by
  unfold cask_Check at h
  split at h
  · cases h
  split at h
  · cases h
  split at h
  · cases h
  exact h
def depthM (s : ByteArray) (pos : Int) (l : List (Int × Int)) (decl : Int) : Int × Int := if (cask_Check s pos l decl != 0) = true then (0, cask_Check s pos l decl) else if (pos == 1) = true then (IntKind.i64.wrap (2 * (pt l (bungN l l.length)).2), 0) else (lenP l, 0)
theorem depth_any (s : ByteArray) (pos : Int) (A : Option Addr) (c : Nat) (l : List (Int × Int)) (decl : Int) (w : World) (hl : RdRow w A l.length 2 (elP l)) (hn : l.length ≤ 100000) : Calls Tryz.prog 7 #[.agg #[.string s, I pos, .slice A l.length c, I decl]] w fun e w' => e = .returned (.tuple #[I (depthM s pos l decl).1, I (depthM s pos l decl).2]) ∧ Below w.heap.size w w' := by
  refine enterPlain tfine Tryz.func7 rfl 34 Tryz.ntmps7 [.agg [.k (.string s), .k (I pos), .inp 1000 A l.length c, .k (I decl)]] [⟨1000, A, 2, l.length, elP l⟩] rfl rfl ⟨hl, trivial⟩ ⟨⟨trivial, trivial, .inl ⟨rfl, rfl, rfl⟩, trivial, trivial⟩, trivial⟩ ?_
  refine G.seqR tfine rfl trivial ?_
  refine G.seq ?_
  refine G.seqC tfine rfl trivial ?_
  refine GO.callPlain (v := I (cask_Check s pos l decl)) rfl rfl rfl rfl (fun args w => Tryz.call24 args w) (fun ρ w hs hok => cask_Check_any s pos A c l decl w (hs.row (cap := c) rfl (hok _ List.mem_cons_self _ (.tail _ (.tail _ (.head _))))) hn) ?_
  refine GO.fin tfine rfl trivial ?_
  refine G.seqR tfine rfl trivial ?_
  refine G.cond (b := cask_Check s pos l decl != 0) rfl (fun h1 => ?_) (fun h1 => ?_)
  · refine G.seqR tfine rfl trivial ?_
    refine G.ret (endK.ret rfl ?_)
    rw [depthM, if_pos h1]
  refine G.skip ?_
  have hE := caskE_prof (show cask_Check s pos l decl = 0 by simpa using h1)
  have hok := profE_ok hE
  have hb := bungN_lt l (by have := hok.two; omega) l.length (Nat.le_refl _)
  have hE' : (profE l != 0) = false := by rw [hE]; rfl
  refine G.seq ?_
  refine G.seqR tfine rfl trivial ?_
  refine G.cond (b := pos == 1) rfl (fun h2 => ?_) (fun h2 => ?_)
  · refine G.seqC tfine rfl trivial ?_
    refine GO.callPlain (v := .tuple #[I (bungN l l.length : Nat), I 0]) rfl rfl rfl rfl (fun args w => Tryz.call25 args w) (fun ρ w hs hok => ?_) ?_
    · have := bung_any A c l w (hs.row (cap := c) rfl (hok _ List.mem_cons_self)) hn
      rw [bungM, if_neg (fne hE')] at this
      exact this
    refine GO.fin tfine rfl trivial ?_
    refine G.seqR tfine rfl ?_ ?_
    · first | trivial | (simp [AllP, condB]; done) | (simp only [AllP]; and_intros <;> first | trivial | decide | omega) | (simp [AllP, condB]; intros; and_intros <;> first | assumption | omega) | (simp [AllP, condB]; intros; simp_all; done)
    refine G.ret (endK.ret rfl ?_)
    rw [depthM, if_neg (fne h1), if_pos h2]
    rfl
  refine G.skip ?_
  refine G.seqC tfine rfl trivial ?_
  refine GO.callPlain (v := .tuple #[I (lenP l), I 0]) rfl rfl rfl rfl (fun args w => Tryz.call26 args w) (fun ρ w hs hok => ?_) ?_
  · have := profile_Length_any A c l w (hs.row (cap := c) rfl (hok _ List.mem_cons_self)) hn
    rw [profile_Length, if_neg (fne hE')] at this
    exact this
  refine GO.fin tfine rfl trivial ?_
  refine G.ret (endK.ret rfl ?_)
  rw [depthM, if_neg (fne h1), if_neg (fne h2)]
end Go.Proofs.YtphipfmidfoflaaGreat
/- Top: the full space of casks. -/
set_option linter.unusedVariables false
set_option linter.unusedSimpArgs false
set_option maxRecDepth 8000
set_option maxHeartbeats 1000000
namespace Go.Proofs.YtphipfmidfoflaaGreat
open Go.Sx Go.RowKit
def frT (h a b : Int) : Int := IntKind.i64.wrap (h * IntKind.i64.wrap (IntKind.i64.wrap (IntKind.i64.wrap (a * a) + IntKind.i64.wrap (a * b)) + IntKind.i64.wrap (b * b)))
/-- the sum of the first frustums -/
def frS (l : List (Int × Int)) : Nat → Int
  | 0 => 0
  | i + 1 => IntKind.i64.wrap (frS l i + frT (IntKind.i64.wrap ((pt l (i + 1)).1 - (pt l i).1)) (pt l i).2 (pt l (i + 1)).2)
def frM (l : List (Int × Int)) : Int × Int := if (profE l != 0) = true then (0, profE l) else (frS l (l.length - 1), 0)
theorem frAdd_any (h a b s : Int) (g : Nat) (w : World) (hb : Brs w [⟨1000, g, 3, [I s]⟩]) :
    Calls Tryz.prog 53 #[I h, I a, I b, .pointer (some ⟨g, 0, none⟩)] w fun e w' => e = .returned (.tuple #[]) ∧ Fr w [g] w' ∧
      ∀ b' ∈ ([⟨1000, 3, [I (IntKind.i64.wrap (s + frT h a b))]⟩] : List Tn), ∀ k, (b'.x, k) ∈ [(1000, g)] → w'.heap[k]? = some (.cells b'.cs.toArray b'.ty (0, 0)) := by
  refine enterBor tfine [⟨1000, 3, [I (IntKind.i64.wrap (s + frT h a b))]⟩] Tryz.func53 rfl 22 Tryz.ntmps53 [.c (.k (I h)), .c (.k (I a)), .c (.k (I b)), .c (.ptr 1000 0 0 0)] _ hb rfl rfl ⟨trivial, trivial, trivial, ⟨_, .head _, rfl⟩, trivial⟩ ?_
  refine G.reg tfine rfl trivial ?_
  exact ⟨.inr rfl, rfl, rfl, trivial⟩
theorem brs1 {E : Env} {ρ : Val} {m : Mem} {w : World} (hs : SatM E ρ m w) {x : Nat} {tx : TypeId} {cx : List Value} (hx : m x = some (.var tx (cx.map .k))) : Brs w [⟨1000, (ρ x).1, tx, cx⟩] := by
  have h9 := SatM.var hs hx
  refine ⟨?_, ?_, ?_, ?_⟩
  · simp
  · simp
  · simp
  · simp [h9.2]
theorem frustums_any (A : Option Addr) (c : Nat) (l : List (Int × Int)) (w : World) (hl : RdRow w A l.length 2 (elP l)) (hn : l.length ≤ 100000) : Calls Tryz.prog 28 #[.slice A l.length c] w fun e w' => e = .returned (.tuple #[I (frM l).1, I (frM l).2]) ∧ Below w.heap.size w w' := by
  refine enterPlain tfine Tryz.func28 rfl 46 Tryz.ntmps28 [.c (.inp 1000 A l.length c)] [⟨1000, A, 2, l.length, elP l⟩] rfl rfl ⟨hl, trivial⟩ ⟨.inl ⟨rfl, rfl, rfl⟩, trivial⟩ ?_
  refine G.seqR tfine rfl trivial ?_
  refine G.seq ?_
  refine G.seqC tfine rfl trivial ?_
  refine GO.callPlain (v := I (profE l)) rfl rfl rfl rfl (fun args w => Tryz.call51 args w) (fun ρ w hs hok => profCheck_any A c l w (hs.row (cap := c) rfl (hok _ List.mem_cons_self)) hn) ?_
  refine GO.fin tfine rfl trivial ?_
  refine G.seqR tfine rfl trivial ?_
  refine G.cond (b := profE l != 0) rfl (fun h1 => ?_) (fun h1 => ?_)
  · refine G.seqR tfine rfl trivial ?_
    refine G.ret (endK.ret rfl ?_)
    rw [frM, if_pos h1]
  refine G.skip ?_
  have h2 := profE_of h1
  refine G.seqR tfine rfl trivial ?_
  refine G.seqR tfine rfl trivial ?_
  refine G.seq (G.seqR tfine rfl trivial ?_)
  refine G.block (G.loop (fun k : Nat => St.of [(0, .v (.c (.inp 1000 A l.length c))), (5, .v (.c (.ptr 5 0 0 0))), (6, .v (.c (.fn 53 [.own 5 0]))), (7, .v (.c (.k (I (k + 1 : Nat)))))] [(5, .var 3 [.k (I (frS l k))]), (1000, .ro 2 l.length (elP l))])
    (fun k => k + 1 ≤ l.length) (fun k => l.length - k) 0 (by omega) (St.le_of rfl ⟨⟨_, rfl, Blk.le_refl _⟩, ⟨_, rfl, Blk.le_refl _⟩, trivial⟩ ⟨rfl, rfl, rfl, rfl, trivial⟩) ?_)
  intro k hk
  refine G.seq ?_
  refine G.seqR tfine rfl trivial ?_
  refine G.cond (b := decide (((k + 1 : Nat) : Int) < (l.length : Int))) rfl (fun h3 => ?_) (fun h3 => ?_)
  rotate_left
  · have h3 := of_decide_eq_false h3
    have : k = l.length - 1 := by omega
    subst this
    refine G.exit ?_
    refine G.seqR tfine rfl trivial ?_
    refine G.ret (endK.ret rfl ?_)
    rw [frM, if_neg (fne h1)]
  have h3 := of_decide_eq_true h3
  have hlt : k + 1 < l.length := by omega
  have hw1 : IntKind.i64.wrap (((k + 1 : Nat) : Int) - 1) = (k : Int) := by rw [show (((k + 1 : Nat) : Int) - 1) = (k : Int) by omega]; exact IntWalk.i64_in _ (by omega)
  refine G.skip ?_
  refine G.seq (G.block ?_)
  refine G.draw (cls := [0, 0, 0, 6, 14, 30, 0, 0, 128, 448, 960, 1984, 4094, 0, 0, 16384, 57344, 122880, 253952, 0, 0, 1572864, 3670016, 7864320, 16777215]) (X := [(24, 5)]) hmix rfl rfl rfl ?_
  refine GD.more tfine 0 rfl rfl ?_ ?_
  · simp only [AllP, hw1]
    and_intros <;> first | trivial | omega
  refine GD.callTurn (v := .tuple #[]) [⟨5, 3, [I (frS l (k + 1))]⟩] 24 rfl rfl rfl rfl rfl rfl (fun args w => Tryz.call53 args w) ?_ ?_ ?_
  · intro b hb
    simp only [List.mem_cons, List.not_mem_nil, or_false] at hb
    rcases hb with rfl
    exact ⟨_, rfl⟩
  · intro m hle ρ w hs _
    have h5 : m 5 = some (.var 3 ([I (frS l k)].map .k)) := LeM.at hle rfl
    have := frAdd_any (IntKind.i64.wrap ((pt l (k + 1)).1 - (pt l k).1)) (pt l k).2 (pt l (k + 1)).2 (frS l k) (ρ 5).1 w (brs1 hs h5)
    have e : ([AV.c (.k (I (IntKind.i64.wrap ((pt l (((k + 1 : Nat) : Int)).toNat).1 - (pt l (IntKind.i64.wrap (((k + 1 : Nat) : Int) - 1)).toNat).1)))), .c (.k (I (pt l (IntKind.i64.wrap (((k + 1 : Nat) : Int) - 1)).toNat).2)), .c (.k (I (pt l (((k + 1 : Nat) : Int)).toNat).2))].map (AV.conc ρ) ++ [Cap.own 5 0].map (Cap.conc ρ)).toArray =
        #[I (IntKind.i64.wrap ((pt l (k + 1)).1 - (pt l k).1)), I (pt l k).2, I (pt l (k + 1)).2, .pointer (some ⟨(ρ 5).1, 0, none⟩)] := by
      rw [hw1, Int.toNat_natCast, Int.toNat_natCast]
      simp [AV.conc, AC.conc, Cap.conc, (SatM.var hs h5).1]
    refine e ▸ this.mono ?_
    rintro e w' ⟨rfl, hf, hn⟩
    refine ⟨rfl, hf, fun t ht => ?_⟩
    simp only [List.mem_cons, List.not_mem_nil, or_false] at ht
    rcases ht with rfl
    exact hn _ (.head _) (ρ 5).1 (.head _)
  refine GD.nil ?_
  refine G.reg tfine rfl trivial ?_
  refine ⟨k + 1, hlt, (by show l.length - (k + 1) < l.length - k; omega), St.le_of rfl ⟨⟨_, rfl, Blk.le_refl _⟩, ⟨_, rfl, Blk.le_refl _⟩, trivial⟩ ⟨rfl, rfl, rfl, ?_, trivial⟩⟩
  simp [up, I]
  rw [IntWalk.i64_in _ (by omega)]
def capacity_Space (l0 : List (Int × Int)) : Int × Int × Int := if (((frM l0).2) != (0 : Int)) = true then ((0 : Int), (0 : Int), (frM l0).2) else (IntKind.i64.wrap ((IntKind.i64.wrap (((frM l0).1) * (333 : Int))).tdiv (318 : Int)), IntKind.i64.wrap ((IntKind.i64.wrap ((IntKind.i64.wrap (((frM l0).1) * (355 : Int))) + (338 : Int))).tdiv (339 : Int)), (0 : Int))
theorem capacity_Space_any (A0 : Option Addr) (c0 : Nat) (l0 : List (Int × Int)) (w : World) (hl_l0 : RdRow w A0 l0.length 2 (elP l0)) (hm_l0 : l0.length ≤ 100000) : Calls Tryz.prog 10 #[.slice A0 l0.length c0] w fun e w' => e = .returned (.tuple #[.agg #[I ((capacity_Space l0).1), I ((capacity_Space l0).2.1)], I ((capacity_Space l0).2.2)]) ∧ Below w.heap.size w w' := by
  refine enterPlain tfine Tryz.func10 rfl 23 Tryz.ntmps10 [.c (.inp 1000 A0 l0.length c0)] [⟨1000, A0, 2, l0.length, elP l0⟩] rfl rfl ⟨hl_l0, trivial⟩ ⟨.inl ⟨rfl, rfl, rfl⟩, trivial⟩ ?_
  refine G.seqR tfine rfl ?_ ?_
  · first | trivial | (simp [AllP, condB]; done) | (simp only [AllP]; and_intros <;> first | trivial | decide | omega) | (simp [AllP, condB]; intros; and_intros <;> first | assumption | omega) | (simp [AllP, condB]; intros; simp_all; done) | (simp [AllP, condB]; intros; simp_all; omega) | (simp [AllP, condB]; omega)
  refine G.seqC tfine rfl ?_ ?_
  · first | trivial | (simp [AllP, condB]; done) | (simp only [AllP]; and_intros <;> first | trivial | decide | omega) | (simp [AllP, condB]; intros; and_intros <;> first | assumption | omega) | (simp [AllP, condB]; intros; simp_all; done) | (simp [AllP, condB]; intros; simp_all; omega) | (simp [AllP, condB]; omega)
  refine GO.callPlain (v := .tuple #[I ((frM l0).1), I ((frM l0).2)])  rfl rfl rfl rfl (fun args w => Tryz.call28 args w) (fun ρ w hs hok => frustums_any A0 c0 l0 w (hs.row (cap := c0) rfl (hok _ List.mem_cons_self)) hm_l0) ?_
  refine GO.fin tfine rfl ?_ ?_
  · first | trivial | (simp [AllP, condB]; done) | (simp only [AllP]; and_intros <;> first | trivial | decide | omega) | (simp [AllP, condB]; intros; and_intros <;> first | assumption | omega) | (simp [AllP, condB]; intros; simp_all; done) | (simp [AllP, condB]; intros; simp_all; omega) | (simp [AllP, condB]; omega)
  refine G.seq ?_
  refine G.seqR tfine rfl ?_ ?_
  · first | trivial | (simp [AllP, condB]; done) | (simp only [AllP]; and_intros <;> first | trivial | decide | omega) | (simp [AllP, condB]; intros; and_intros <;> first | assumption | omega) | (simp [AllP, condB]; intros; simp_all; done) | (simp [AllP, condB]; intros; simp_all; omega) | (simp [AllP, condB]; omega)
  refine G.cond (b := ((frM l0).2) != (0 : Int)) rfl (fun h1 => ?_) (fun h1 => ?_)
  · refine G.seqR tfine rfl ?_ ?_
    · first | trivial | (simp [AllP, condB]; done) | (simp only [AllP]; and_intros <;> first | trivial | decide | omega) | (simp [AllP, condB]; intros; and_intros <;> first | assumption | omega) | (simp [AllP, condB]; intros; simp_all; done) | (simp [AllP, condB]; intros; simp_all; omega) | (simp [AllP, condB]; omega)
    refine G.ret (endK.ret rfl ?_)
    first | (rw [capacity_Space, if_pos h1]; done) | (rw [capacity_Space, if_pos h1]; rfl)
  refine G.skip ?_
  refine G.seqR tfine rfl ?_ ?_
  · first | trivial | (simp [AllP, condB]; done) | (simp only [AllP]; and_intros <;> first | trivial | decide | omega) | (simp [AllP, condB]; intros; and_intros <;> first | assumption | omega) | (simp [AllP, condB]; intros; simp_all; done) | (simp [AllP, condB]; intros; simp_all; omega) | (simp [AllP, condB]; omega)
  refine G.ret (endK.ret rfl ?_)
  first | (rw [capacity_Space, if_neg (fne h1)]; done) | (rw [capacity_Space, if_neg (fne h1)]; rfl)
def capacity_Volume (s0_0 : ByteArray) (x0_1 : Int) (l0_2 : List (Int × Int)) (x0_3 : Int) : Int × Int × Int := if ((cask_Check s0_0 x0_1 l0_2 x0_3) != (0 : Int)) = true then ((0 : Int), (0 : Int), cask_Check s0_0 x0_1 l0_2 x0_3) else (IntKind.i64.wrap (((capacity_Space l0_2).1).tdiv (1000000 : Int)), IntKind.i64.wrap ((IntKind.i64.wrap ((IntKind.i64.wrap (((capacity_Space l0_2).2.1) + (1000000 : Int))) - (1 : Int))).tdiv (1000000 : Int)), (capacity_Space l0_2).2.2)
theorem capacity_Volume_any (s0_0 : ByteArray) (x0_1 : Int) (A0_2 : Option Addr) (c0_2 : Nat) (l0_2 : List (Int × Int)) (x0_3 : Int) (w : World) (hl_l0_2 : RdRow w A0_2 l0_2.length 2 (elP l0_2)) (hm_l0_2 : l0_2.length ≤ 100000) : Calls Tryz.prog 18 #[.agg #[.string s0_0, I x0_1, .slice A0_2 l0_2.length c0_2, I x0_3]] w fun e w' => e = .returned (.tuple #[.agg #[I ((capacity_Volume s0_0 x0_1 l0_2 x0_3).1), I ((capacity_Volume s0_0 x0_1 l0_2 x0_3).2.1)], I ((capacity_Volume s0_0 x0_1 l0_2 x0_3).2.2)]) ∧ Below w.heap.size w w' := by
  refine enterPlain tfine Tryz.func18 rfl 29 Tryz.ntmps18 [.agg [.k (.string s0_0), .k (I x0_1), .inp 1000 A0_2 l0_2.length c0_2, .k (I x0_3)]] [⟨1000, A0_2, 2, l0_2.length, elP l0_2⟩] rfl rfl ⟨hl_l0_2, trivial⟩ ⟨⟨trivial, trivial, .inl ⟨rfl, rfl, rfl⟩, trivial, trivial⟩, trivial⟩ ?_
  refine G.seqR tfine rfl ?_ ?_
  · first | trivial | (simp [AllP, condB]; done) | (simp only [AllP]; and_intros <;> first | trivial | decide | omega) | (simp [AllP, condB]; intros; and_intros <;> first | assumption | omega) | (simp [AllP, condB]; intros; simp_all; done) | (simp [AllP, condB]; intros; simp_all; omega) | (simp [AllP, condB]; omega)
  refine G.seq ?_
  refine G.seqC tfine rfl ?_ ?_
  · first | trivial | (simp [AllP, condB]; done) | (simp only [AllP]; and_intros <;> first | trivial | decide | omega) | (simp [AllP, condB]; intros; and_intros <;> first | assumption | omega) | (simp [AllP, condB]; intros; simp_all; done) | (simp [AllP, condB]; intros; simp_all; omega) | (simp [AllP, condB]; omega)
  refine GO.callPlain (v := I (cask_Check s0_0 x0_1 l0_2 x0_3))  rfl rfl rfl rfl (fun args w => Tryz.call24 args w) (fun ρ w hs hok => cask_Check_any _ _ A0_2 c0_2 l0_2 _ w (hs.row (cap := c0_2) rfl (hok _ List.mem_cons_self _ (List.mem_cons_of_mem _ (List.mem_cons_of_mem _ List.mem_cons_self)))) hm_l0_2) ?_
  refine GO.fin tfine rfl ?_ ?_
  · first | trivial | (simp [AllP, condB]; done) | (simp only [AllP]; and_intros <;> first | trivial | decide | omega) | (simp [AllP, condB]; intros; and_intros <;> first | assumption | omega) | (simp [AllP, condB]; intros; simp_all; done) | (simp [AllP, condB]; intros; simp_all; omega) | (simp [AllP, condB]; omega)
  refine G.seqR tfine rfl ?_ ?_
  · first | trivial | (simp [AllP, condB]; done) | (simp only [AllP]; and_intros <;> first | trivial | decide | omega) | (simp [AllP, condB]; intros; and_intros <;> first | assumption | omega) | (simp [AllP, condB]; intros; simp_all; done) | (simp [AllP, condB]; intros; simp_all; omega) | (simp [AllP, condB]; omega)
  refine G.cond (b := (cask_Check s0_0 x0_1 l0_2 x0_3) != (0 : Int)) rfl (fun h1 => ?_) (fun h1 => ?_)
  · refine G.seqR tfine rfl ?_ ?_
    · first | trivial | (simp [AllP, condB]; done) | (simp only [AllP]; and_intros <;> first | trivial | decide | omega) | (simp [AllP, condB]; intros; and_intros <;> first | assumption | omega) | (simp [AllP, condB]; intros; simp_all; done) | (simp [AllP, condB]; intros; simp_all; omega) | (simp [AllP, condB]; omega)
    refine G.ret (endK.ret rfl ?_)
    first | (rw [capacity_Volume, if_pos h1]; done) | (rw [capacity_Volume, if_pos h1]; rfl)
  refine G.skip ?_
  refine G.seqC tfine rfl ?_ ?_
  · first | trivial | (simp [AllP, condB]; done) | (simp only [AllP]; and_intros <;> first | trivial | decide | omega) | (simp [AllP, condB]; intros; and_intros <;> first | assumption | omega) | (simp [AllP, condB]; intros; simp_all; done) | (simp [AllP, condB]; intros; simp_all; omega) | (simp [AllP, condB]; omega)
  refine GO.callPlain (v := .tuple #[.agg #[I ((capacity_Space l0_2).1), I ((capacity_Space l0_2).2.1)], I ((capacity_Space l0_2).2.2)])  rfl rfl rfl rfl (fun args w => Tryz.call10 args w) (fun ρ w hs hok => capacity_Space_any A0_2 c0_2 l0_2 w (hs.row (cap := c0_2) rfl (hok _ List.mem_cons_self)) hm_l0_2) ?_
  refine GO.fin tfine rfl ?_ ?_
  · first | trivial | (simp [AllP, condB]; done) | (simp only [AllP]; and_intros <;> first | trivial | decide | omega) | (simp [AllP, condB]; intros; and_intros <;> first | assumption | omega) | (simp [AllP, condB]; intros; simp_all; done) | (simp [AllP, condB]; intros; simp_all; omega) | (simp [AllP, condB]; omega)
  refine G.seqR tfine rfl ?_ ?_
  · first | trivial | (simp [AllP, condB]; done) | (simp only [AllP]; and_intros <;> first | trivial | decide | omega) | (simp [AllP, condB]; intros; and_intros <;> first | assumption | omega) | (simp [AllP, condB]; intros; simp_all; done) | (simp [AllP, condB]; intros; simp_all; omega) | (simp [AllP, condB]; omega)
  refine G.ret (endK.ret rfl ?_)
  first | (rw [capacity_Volume, if_neg (fne h1)]; done) | (rw [capacity_Volume, if_neg (fne h1)]; rfl)
end Go.Proofs.YtphipfmidfoflaaGreat
/- The symbolic executor, part BE: a row of one element that was just built becomes a row that grows, under another name. Generic over P. -/
set_option linter.unusedVariables false
set_option linter.unusedSimpArgs false
namespace Go.Sx
open Go.RowKit
section
variable {P : Program} {E : Env} {K : Exit → St → Prop} {T : Tab} {ops : Array Oper} {rest : List Oper}
theorem SatM.reown {ρ : Val} {m : Mem} {w : World} (h : SatM E ρ m w) {x y : Nat} {b b' : Blk} (hx : m x = some b) (ho : b.own) (ho' : b'.own) (hy : m y = none) (hyb : y < 1000)
    (hbb : ∀ (ρ' : Val) (m' : Mem), ρ' y = ρ x → BlkOK E ρ' m' w y b') : SatM E (up ρ y (ρ x)) (up (up m x (some (.ro 0 0 fun _ => []))) y (some b')) w := by
  have hxy : x ≠ y := fun e => by rw [e, hy] at hx; cases hx
  obtain ⟨ρ', hρ'⟩ : ∃ ρ' : Val, ρ' = up ρ y (ρ x) := ⟨_, rfl⟩
  rw [← hρ']
  have e1 : ρ' y = ρ x := by rw [hρ', up_same]
  have e2 : ∀ z, z ≠ y → ρ' z = ρ z := fun z hz => by rw [hρ', up_other _ _ hz]
  have hρ : ∀ z, (m z).isSome = true → ρ' z = ρ z := fun z hz => e2 z fun e => by rw [e, hy] at hz; cases hz
  have hsome : ∀ z, (m z).isSome = true → (up (up m x (some (.ro 0 0 fun _ => []))) y (some b') z).isSome = true := fun z hz => isSome_up z (isSome_up z hz)
  have key : ∀ z d, up (up m x (some (.ro 0 0 fun _ => []))) y (some b') z = some d → (z = y ∧ d = b') ∨ (z ≠ y ∧ z = x ∧ d = .ro 0 0 fun _ => []) ∨ (z ≠ y ∧ z ≠ x ∧ m z = some d) := by
    intro z d hz
    by_cases h1 : z = y
    · subst h1
      rw [up_same] at hz
      injection hz with hz
      exact .inl ⟨rfl, hz.symm⟩
    · rw [up_other _ _ h1] at hz
      by_cases h2 : z = x
      · subst h2
        rw [up_same] at hz
        injection hz with hz
        exact .inr (.inl ⟨h1, rfl, hz.symm⟩)
      · rw [up_other _ _ h2] at hz
        exact .inr (.inr ⟨h1, h2, hz⟩)
  refine ⟨h.fr, fun p hp => ?_, fun z d hz => ?_, fun z z' d d' hz hz' hd hd' hne => ?_⟩
  · have := h.bo p hp
    rw [e2 _ (by omega)]; exact this
  · rcases key z d hz with ⟨rfl, rfl⟩ | ⟨h1, rfl, rfl⟩ | ⟨h1, h2, h3⟩
    · exact hbb _ _ e1
    · intro h0; exact absurd h0 (Nat.lt_irrefl 0)
    · have hk := h.ok z d h3
      have ey : ρ' z = ρ z := e2 z h1
      cases d with
      | var ty cells =>
        have hcm : cells.map (AC.conc ρ') = cells.map (AC.conc ρ) := List.map_congr_left fun c hm => AC.conc_mono hρ (hk.2.2.2 c hm)
        exact ⟨by rw [ey]; exact hk.1, by rw [ey]; exact hk.2.1, by rw [ey, hcm]; exact hk.2.2.1, fun c hc => AC.ok_mono hsome hρ (hk.2.2.2 c hc)⟩
      | arr ty sz n el room =>
        obtain ⟨k1, k2, a, ha, hs, he⟩ := hk
        exact ⟨by rw [ey]; exact k1, by rw [ey]; exact k2, a, by rw [ey]; exact ha, hs, he⟩
      | obj Q =>
        obtain ⟨k1, k2, a, ha, hs⟩ := hk
        exact ⟨by rw [ey]; exact k1, by rw [ey]; exact k2, a, by rw [ey]; exact ha, hs⟩
      | ro sz n el =>
        intro hn
        rw [ey]
        exact hk hn
      | say S R => exact hk
  · rcases key z d hz with ⟨rfl, rfl⟩ | ⟨h1, rfl, rfl⟩ | ⟨h1, h2, h3⟩
    · rcases key z' d' hz' with ⟨rfl, rfl⟩ | ⟨k1, rfl, rfl⟩ | ⟨k1, k2, k3⟩
      · exact absurd rfl hne
      · exact absurd hd' (Nat.lt_irrefl 0)
      · rw [e1, e2 _ k1]
        exact h.ne x z' b d' hx k3 ho hd' (Ne.symm k2)
    · exact hd.elim
    · rcases key z' d' hz' with ⟨rfl, rfl⟩ | ⟨k1, rfl, rfl⟩ | ⟨k1, k2, k3⟩
      · rw [e2 _ h1]
        rw [Blk.own_hits ho', e1]
        have := h.ne z x d b h3 hx hd (Blk.own_live ho) h2
        rwa [Blk.own_hits ho] at this
      · exact absurd hd' (Nat.lt_irrefl 0)
      · rw [e2 _ h1, e2 _ k1]
        exact h.ne z z' d d' h3 k3 hd hd' hne
/-- A row of one element that was just built becomes a row that grows. -/
theorem G.accOne {c : Code} {t : Nat → TV} {m : Mem} (x y d : Nat) {sz c1 : Nat} {e : TypeId} {vs : List Value} (hm : m x = some (.var e (vs.map .k))) (ht : t d = .v (.c (.slc x 0 sz 1 c1))) (hv : vs.length = sz) (hxb : Nat.blt x 1000 = true) (hy : m y = none) (hyb : Nat.blt y 1000 = true)
    (k : G P E K c ⟨up t d (.v (.c (.slc y 0 sz 1 c1))), up (up m x (some (.ro 0 0 fun _ => []))) y (some (.arr e sz 1 (fun _ => vs) 0))⟩) : G P E K c ⟨t, m⟩ := by
  intro hn ρ a w hs
  have hxb : x < 1000 := by simpa [Nat.blt_eq] using hxb
  have hyb : y < 1000 := by simpa [Nat.blt_eq] using hyb
  obtain ⟨k1, k2, k3, k4⟩ := hs.mem.ok x _ hm
  rw [map_kc] at k3
  have k2' : E.w0.heap.size ≤ (ρ x).1 := by
    rcases k2 with h | h
    · exact h
    · have := (hs.mem.bo _ h).2
      simp only at this
      omega
  have h2 := hs.mem.reown (b' := .arr e sz 1 (fun _ => vs) 0) hm trivial trivial hy hyb fun ρ' m' e1 => by
    refine ⟨by rw [e1]; exact k1, .inl (by rw [e1]; exact k2'), vs.toArray, by rw [e1]; exact k3, by simp [hv], fun i hi => ⟨hv, fun j hj => ?_⟩⟩
    have : i = 0 := by omega
    subst this
    simp
  have hρ : ∀ z, (m z).isSome = true → up ρ y (ρ x) z = ρ z := fun z hz => up_other _ _ fun e => by rw [e, hy] at hz; cases hz
  have hmv := hs.move h2 (fun z hz => isSome_up z (isSome_up z hz)) hρ
  refine k hn _ a w ⟨h2, hmv.df, hmv.sz, fun j => ?_⟩
  by_cases hj : j = d
  · subst hj
    show TV.rep _ _ (up t j _ j) _
    rw [up_same]
    have hd := hs.tm j
    rw [show (St.mk t m).t j = _ from ht] at hd
    refine ⟨?_, ?_⟩
    · show (up (up m x (some (.ro 0 0 fun _ => []))) y (some (.arr e sz 1 (fun _ => vs) 0)) y).isSome = true
      rw [up_same]; rfl
    rw [hd.2]
    simp only [AV.conc, AC.conc, up_same]
  · show TV.rep _ _ (up t d _ j) _
    rw [up_other _ _ hj]
    exact hmv.tm j
end
end Go.Sx
/- Top: the slices of lying casks. -/
set_option linter.unusedVariables false
set_option linter.unusedSimpArgs false
set_option maxRecDepth 8000
set_option maxHeartbeats 1000000
namespace Go.Proofs.YtphipfmidfoflaaGreat
open Go.Sx Go.RowKit
def lying_lies (s0_0 : ByteArray) (x0_1 : Int) (l0_2 : List (Int × Int)) (x0_3 : Int) : Int := if ((cask_Check s0_0 x0_1 l0_2 x0_3) != (0 : Int)) = true then ((1 : Int)) else if (x0_1 != (1 : Int)) = true then ((10 : Int)) else ((0 : Int))
theorem lying_lies_any (s0_0 : ByteArray) (x0_1 : Int) (A0_2 : Option Addr) (c0_2 : Nat) (l0_2 : List (Int × Int)) (x0_3 : Int) (w : World) (hl_l0_2 : RdRow w A0_2 l0_2.length 2 (elP l0_2)) (hm_l0_2 : l0_2.length ≤ 100000) : Calls Tryz.prog 54 #[.agg #[.string s0_0, I x0_1, .slice A0_2 l0_2.length c0_2, I x0_3]] w fun e w' => e = .returned (I (lying_lies s0_0 x0_1 l0_2 x0_3)) ∧ Below w.heap.size w w' := by
  refine enterPlain tfine Tryz.func54 rfl 9 Tryz.ntmps54 [.agg [.k (.string s0_0), .k (I x0_1), .inp 1000 A0_2 l0_2.length c0_2, .k (I x0_3)]] [⟨1000, A0_2, 2, l0_2.length, elP l0_2⟩] rfl rfl ⟨hl_l0_2, trivial⟩ ⟨⟨trivial, trivial, .inl ⟨rfl, rfl, rfl⟩, trivial, trivial⟩, trivial⟩ ?_
  refine G.seqR tfine rfl ?_ ?_
  · first | trivial | (simp [AllP, condB]; done) | (simp only [AllP]; and_intros <;> first | trivial | decide | omega) | (simp [AllP, condB]; intros; and_intros <;> first | assumption | omega) | (simp [AllP, condB]; intros; simp_all; done) | (simp [AllP, condB]; intros; simp_all; omega) | (simp [AllP, condB]; omega)
  refine G.seq ?_
  refine G.seqC tfine rfl ?_ ?_
  · first | trivial | (simp [AllP, condB]; done) | (simp only [AllP]; and_intros <;> first | trivial | decide | omega) | (simp [AllP, condB]; intros; and_intros <;> first | assumption | omega) | (simp [AllP, condB]; intros; simp_all; done) | (simp [AllP, condB]; intros; simp_all; omega) | (simp [AllP, condB]; omega)
  refine GO.callPlain (v := I (cask_Check s0_0 x0_1 l0_2 x0_3))  rfl rfl rfl rfl (fun args w => Tryz.call24 args w) (fun ρ w hs hok => cask_Check_any _ _ A0_2 c0_2 l0_2 _ w (hs.row (cap := c0_2) rfl (hok _ List.mem_cons_self _ (List.mem_cons_of_mem _ (List.mem_cons_of_mem _ List.mem_cons_self)))) hm_l0_2) ?_
  refine GO.fin tfine rfl ?_ ?_
  · first | trivial | (simp [AllP, condB]; done) | (simp only [AllP]; and_intros <;> first | trivial | decide | omega) | (simp [AllP, condB]; intros; and_intros <;> first | assumption | omega) | (simp [AllP, condB]; intros; simp_all; done) | (simp [AllP, condB]; intros; simp_all; omega) | (simp [AllP, condB]; omega)
  refine G.cond (b := (cask_Check s0_0 x0_1 l0_2 x0_3) != (0 : Int)) rfl (fun h1 => ?_) (fun h1 => ?_)
  · refine G.seqR tfine rfl ?_ ?_
    · first | trivial | (simp [AllP, condB]; done) | (simp only [AllP]; and_intros <;> first | trivial | decide | omega) | (simp [AllP, condB]; intros; and_intros <;> first | assumption | omega) | (simp [AllP, condB]; intros; simp_all; done) | (simp [AllP, condB]; intros; simp_all; omega) | (simp [AllP, condB]; omega)
    refine G.ret (endK.ret rfl ?_)
    first | (rw [lying_lies, if_pos h1]; done) | (rw [lying_lies, if_pos h1]; rfl)
  refine G.skip ?_
  refine G.seq ?_
  refine G.seqR tfine rfl ?_ ?_
  · first | trivial | (simp [AllP, condB]; done) | (simp only [AllP]; and_intros <;> first | trivial | decide | omega) | (simp [AllP, condB]; intros; and_intros <;> first | assumption | omega) | (simp [AllP, condB]; intros; simp_all; done) | (simp [AllP, condB]; intros; simp_all; omega) | (simp [AllP, condB]; omega)
  refine G.cond (b := x0_1 != (1 : Int)) rfl (fun h2 => ?_) (fun h2 => ?_)
  · refine G.seqR tfine rfl ?_ ?_
    · first | trivial | (simp [AllP, condB]; done) | (simp only [AllP]; and_intros <;> first | trivial | decide | omega) | (simp [AllP, condB]; intros; and_intros <;> first | assumption | omega) | (simp [AllP, condB]; intros; simp_all; done) | (simp [AllP, condB]; intros; simp_all; omega) | (simp [AllP, condB]; omega)
    refine G.ret (endK.ret rfl ?_)
    first | (rw [lying_lies, if_neg (fne h1), if_pos h2]; done) | (rw [lying_lies, if_neg (fne h1), if_pos h2]; rfl)
  refine G.skip ?_
  refine G.seqR tfine rfl ?_ ?_
  · first | trivial | (simp [AllP, condB]; done) | (simp only [AllP]; and_intros <;> first | trivial | decide | omega) | (simp [AllP, condB]; intros; and_intros <;> first | assumption | omega) | (simp [AllP, condB]; intros; simp_all; done) | (simp [AllP, condB]; intros; simp_all; omega) | (simp [AllP, condB]; omega)
  refine G.ret (endK.ret rfl ?_)
  first | (rw [lying_lies, if_neg (fne h1), if_neg (fne h2)]; done) | (rw [lying_lies, if_neg (fne h1), if_neg (fne h2)]; rfl)
theorem elI_snoc (l : List Int) (x : Int) (j : Nat) (hj : j < l.length + 1) : elN (elI l) l.length [I x] j = elI (l ++ [x]) j := by
  by_cases e : j = l.length
  · subst e
    rw [elN_eq]
    simp [elI]
  · rw [elN_lt (by omega)]
    simp only [elI]
    rw [List.getD_eq_getElem?_getD, List.getD_eq_getElem?_getD, List.getElem?_append_left (by omega)]
/-- A row of whole numbers and an error, as an answer: the row is new. -/
def RowAns (w w' : World) (o : List Int) (er : Int) (e : Ending) : Prop := ∃ u : Option Addr × Nat, e = .returned (.tuple #[.slice u.1 o.length u.2, I er]) ∧ Below w.heap.size w w' ∧ RdRow w' u.1 o.length 1 (elI o) ∧ (∀ k, sb (.slice u.1 o.length u.2) k → w.heap.size ≤ k ∧ k < w'.heap.size) ∧ Steady (sb (.slice u.1 o.length u.2)) (fun w => RdRow w u.1 o.length 1 (elI o))
theorem retRowNil {P : Program} {T : Tab} (hT : Tab.fine P T) {w : World} {N : Nat} {fn : Func} {st : St} {er : Int} {o : List Int} (ho : o = []) (hv : resP T st fn.results.toList = .mk (.tuple #[.slice none 0 0, I er])) :
    retK P ⟨w, [], N, none, []⟩ fn (fun e w' => RowAns w w' o er e) .ret st := by
  subst ho
  exact ⟨.inl rfl, fun ρ a w' hs => ⟨_, results_run hT hs hv, ⟨(none, 0), rfl, hs.mem.fr.toBelow, RdRow.nil _ _ _ _, fun k hk => absurd hk.1 (Nat.lt_irrefl 0), steady_row⟩⟩⟩
theorem retRow {P : Program} {T : Tab} (hT : Tab.fine P T) {w : World} {N : Nat} {fn : Func} {st : St} {er : Int} {o : List Int} {g c : Nat} (X : Nat) (hX : st.m X = some (.say (· = g) fun w => RdRow w (some ⟨g, 0, none⟩) o.length 1 (elI o))) (hg : w.heap.size ≤ g ∨ (X, g) ∈ ([] : List (Nat × Nat)))
    (hv : resP T st fn.results.toList = .mk (.tuple #[.slice (some ⟨g, 0, none⟩) o.length c, I er])) : retK P ⟨w, [], N, none, []⟩ fn (fun e w' => RowAns w w' o er e) .ret st :=
  ⟨.inl rfl, fun ρ a w' hs => ⟨_, results_run hT hs hv, ⟨(some ⟨g, 0, none⟩, c), rfl, hs.mem.fr.toBelow, (hs.mem.ok X _ hX).1, fun k hk => by
    obtain ⟨_, a, e, rfl⟩ := hk
    injection e with e
    rw [← e]
    exact ⟨hg.elim id (fun h => by cases h), (hs.mem.ok X _ hX).2.1 g rfl⟩, steady_row⟩⟩⟩
/-! ### Slices -/
def lastI (o : List Int) : Int := o.getD (o.length - 1) 0
def pushX (o : List Int) (x : Int) : List Int := if x > lastI o then o ++ [x] else o
def plX (p h m : Int) (i : Nat) : Int := IntKind.i64.wrap (p + IntKind.i64.wrap ((IntKind.i64.wrap ((i : Int) * h)).tdiv m))
def innerS (p h m : Int) (o : List Int) : Nat → List Int
  | 0 => o
  | i + 1 => pushX (innerS p h m o i) (plX p h m (i + 1))
def outerS (l : List (Int × Int)) (m : Int) : Nat → List Int
  | 0 => [0]
  | k + 1 => innerS (pt l k).1 (IntKind.i64.wrap ((pt l (k + 1)).1 - (pt l k).1)) m (outerS l m k) m.toNat
def slicesM (l : List (Int × Int)) (m : Int) : List Int × Int := if (profE l != 0) = true then ([], 1) else if (!(lying_strips m)) = true then ([], 2) else if decide (((outerS l m (l.length - 1)).length : Int) > 65) = true then ([], 15) else (outerS l m (l.length - 1), 0)
theorem pushX_len (o : List Int) (x : Int) : o.length ≤ (pushX o x).length ∧ (pushX o x).length ≤ o.length + 1 := by
  unfold pushX
  split <;> simp
theorem innerS_len (p h m : Int) (o : List Int) : ∀ i, o.length ≤ (innerS p h m o i).length ∧ (innerS p h m o i).length ≤ o.length + i
  | 0 => ⟨Nat.le_refl _, Nat.le_refl _⟩
  | i + 1 => by
    have a := innerS_len p h m o i
    have b := pushX_len (innerS p h m o i) (plX p h m (i + 1))
    rw [innerS]
    omega
theorem outerS_len (l : List (Int × Int)) (m : Int) : ∀ k, 1 ≤ (outerS l m k).length ∧ (outerS l m k).length ≤ 1 + k * m.toNat
  | 0 => ⟨Nat.le_refl _, by simp [outerS]⟩
  | k + 1 => by
    have a := outerS_len l m k
    have b := innerS_len (pt l k).1 (IntKind.i64.wrap ((pt l (k + 1)).1 - (pt l k).1)) m (outerS l m k) m.toNat
    rw [outerS, Nat.succ_mul]
    omega
theorem one0 : ∀ i, i < 1 → elI [0] i = [I 0] := by
  intro i hi
  have : i = 0 := by omega
  subst this
  rfl
theorem slices_any (A : Option Addr) (c : Nat) (l : List (Int × Int)) (m : Int) (w : World) (h : RdRow w A l.length 2 (elP l)) (hn : l.length ≤ 100000) : Calls Tryz.prog 56 #[.slice A l.length c, I m] w fun e w' => RowAns w w' (slicesM l m).1 (slicesM l m).2 e := by
  refine enterSay [] [.c (.k (.slice A l.length c)), .c (.k (I m))] [(801, .say (sb (.slice A l.length c)) (fun w => RdRow w A l.length 2 (elP l)))] Tryz.func56 rfl 71 Tryz.ntmps56 rfl rfl ⟨trivial, trivial, trivial⟩ ⟨⟨h, sb_lt h, steady_row⟩, trivial, trivial⟩ ?_
  refine G.openSay 801 805 0 rfl (fun _ h => h) (fun _ h => h) rfl rfl rfl ?_
  refine G.seqR tfine rfl trivial ?_
  refine G.seq ?_
  refine G.seqC tfine rfl trivial ?_
  refine GO.callPlain (v := I (profE l)) rfl rfl rfl rfl (fun args w => Tryz.call51 args w) (fun ρ w hs hok => profCheck_any A c l w (hs.ok 801 _ rfl).1 hn) ?_
  refine GO.fin tfine rfl trivial ?_
  refine G.cond (b := profE l != 0) rfl (fun h1 => ?_) (fun h1 => ?_)
  · refine G.seqR tfine rfl trivial ?_
    have e : slicesM l m = ([], 1) := by rw [slicesM, if_pos h1]
    rw [e]
    exact G.ret (retRowNil tfine rfl rfl)
  refine G.skip ?_
  refine G.seq ?_
  refine G.seqC tfine rfl trivial ?_
  refine GO.callPlain (v := .bool (lying_strips m)) rfl rfl rfl rfl (fun args w => Tryz.call55 args w) (fun ρ w hs hok => lying_strips_any m w) ?_
  refine GO.fin tfine rfl trivial ?_
  refine G.cond (b := !(lying_strips m)) rfl (fun h2 => ?_) (fun h2 => ?_)
  · refine G.seqR tfine rfl trivial ?_
    have e : slicesM l m = ([], 2) := by rw [slicesM, if_neg (fne h1), if_pos h2]
    rw [e]
    exact G.ret (retRowNil tfine rfl rfl)
  have hok := profE_ok (profE_of0 h1)
  have hm : 1 ≤ m ∧ m ≤ 64 := by
    unfold lying_strips at h2
    simp only [Bool.not_eq_false', Bool.and_eq_true, decide_eq_true_eq] at h2
    omega
  have hlm := hok.most
  refine G.skip ?_
  refine G.seqR tfine rfl trivial ?_
  refine G.accOne (vs := [I 0]) (sz := 1) 18 66 6 rfl rfl rfl rfl rfl rfl ?_
  refine G.seq (G.seqR tfine rfl trivial ?_)
  refine G.block (G.loop (fun z : Nat × Nat => St.of [(0, .v (.c (.inp 805 A l.length c))), (1, .v (.c (.k (I m)))), (6, .v (.c (.slc 66 0 1 (outerS l m z.1).length z.2))), (7, .v (.c (.k (I (z.1 + 1 : Nat)))))]
      [(801, .say (sb (.slice A l.length c)) (fun w => RdRow w A l.length 2 (elP l))), (805, .ro 2 l.length (elP l)), (66, .arr 3 1 (outerS l m z.1).length (elI (outerS l m z.1)) ((z.2 - (outerS l m z.1).length) * 1))])
    (fun z => z.1 + 1 ≤ l.length ∧ (outerS l m z.1).length ≤ z.2) (fun z => l.length - z.1) (0, 1) ⟨by have := hok.two; show 0 + 1 ≤ _; omega, Nat.le_refl _⟩ (St.le_of rfl ⟨⟨_, rfl, Blk.le_refl _⟩, ⟨_, rfl, Blk.le_refl _⟩, ⟨_, rfl, rfl, rfl, Nat.le_refl _, one0, Nat.le_refl _⟩, trivial⟩ ⟨rfl, rfl, rfl, rfl, trivial⟩) ?_)
  rintro ⟨k, cp⟩ ⟨hk, hcp⟩
  simp only at hk hcp
  have hol := outerS_len l m k
  have hkm : k * m.toNat ≤ 31 * 64 := Nat.mul_le_mul (by omega) (by omega)
  refine G.seq ?_
  refine G.seqR tfine rfl trivial ?_
  refine G.cond (b := decide (((k + 1 : Nat) : Int) < (l.length : Int))) rfl (fun h3 => ?_) (fun h3 => ?_)
  rotate_left
  · have h3 := of_decide_eq_false h3
    have hkl : k = l.length - 1 := by omega
    refine G.exit ?_
    refine G.seq ?_
    refine G.seqR tfine rfl trivial ?_
    refine G.cond (b := decide (((outerS l m k).length : Int) > 65)) rfl (fun h4 => ?_) (fun h4 => ?_)
    · refine G.seqR tfine rfl trivial ?_
      have e : slicesM l m = ([], 15) := by rw [slicesM, if_neg (fne h1), if_neg (fne h2), ← hkl, if_pos h4]
      rw [e]
      exact G.ret (retRowNil tfine rfl rfl)
    · have e : slicesM l m = (outerS l m k, 0) := by rw [slicesM, if_neg (fne h1), if_neg (fne h2), ← hkl, if_neg (fne h4)]
      rw [e]
      refine G.skip ?_
      refine G.freezeArr 66 6 rfl rfl (Nat.le_refl _) fun g hg => ?_
      refine G.seqR tfine rfl trivial ?_
      exact G.ret (retRow tfine 66 rfl hg rfl)
  have h3 := of_decide_eq_true h3
  have hlt : k + 1 < l.length := by omega
  have hw1 : IntKind.i64.wrap (((k + 1 : Nat) : Int) - 1) = (k : Int) := by rw [show (((k + 1 : Nat) : Int) - 1) = (k : Int) by omega]; exact IntWalk.i64_in _ (by omega)
  refine G.skip ?_
  refine G.seq (G.block ?_)
  refine G.seqD tfine hmix [0, 0, 2, 7, 15, 31, 0, 0, 192, 448, 960, 0, 0, 4096, 14336, 30720, 63488, 131008, 63, 524287] [] rfl rfl rfl rfl ?_ ?_
  · simp only [AllP, hw1]
    and_intros <;> first | trivial | omega
  obtain ⟨p, hp⟩ : ∃ p, p = (pt l k).1 := ⟨_, rfl⟩
  obtain ⟨hh, hhh⟩ : ∃ hh, hh = IntKind.i64.wrap ((pt l (k + 1)).1 - (pt l k).1) := ⟨_, rfl⟩
  have hstep : outerS l m (k + 1) = innerS p hh m (outerS l m k) m.toNat := by rw [outerS, hp, hhh]
  refine G.seqR tfine rfl trivial ?_
  refine G.block (G.loop (fun z : Nat × Nat => St.of [(0, .v (.c (.inp 805 A l.length c))), (1, .v (.c (.k (I m)))), (6, .v (.c (.slc 66 0 1 (innerS p hh m (outerS l m k) z.1).length z.2))), (7, .v (.c (.k (I (k + 1 : Nat))))), (8, .v (.c (.k (I p)))), (9, .v (.c (.k (I hh)))), (10, .v (.c (.k (I (z.1 + 1 : Nat)))))]
      [(801, .say (sb (.slice A l.length c)) (fun w => RdRow w A l.length 2 (elP l))), (805, .ro 2 l.length (elP l)), (66, .arr 3 1 (innerS p hh m (outerS l m k) z.1).length (elI (innerS p hh m (outerS l m k) z.1)) ((z.2 - (innerS p hh m (outerS l m k) z.1).length) * 1))])
    (fun z => z.1 ≤ m.toNat ∧ (innerS p hh m (outerS l m k) z.1).length ≤ z.2) (fun z => m.toNat - z.1) (0, cp) ⟨Nat.zero_le _, hcp⟩ (St.le_of rfl ⟨⟨_, rfl, Blk.le_refl _⟩, ⟨_, rfl, Blk.le_refl _⟩, ⟨_, rfl, Blk.le_refl _⟩, trivial⟩ ⟨rfl, rfl, rfl, rfl, ?_, ?_, rfl, trivial⟩) ?_)
  · show TV.v (.c (.k (I (pt l (IntKind.i64.wrap (((k + 1 : Nat) : Int) - 1)).toNat).1))) = _
    rw [hw1, Int.toNat_natCast, hp]
  · show TV.v (.c (.k (I (IntKind.i64.wrap ((pt l (((k + 1 : Nat) : Int)).toNat).1 - (pt l (IntKind.i64.wrap (((k + 1 : Nat) : Int) - 1)).toNat).1))))) = _
    rw [hw1, Int.toNat_natCast, Int.toNat_natCast, hhh]
  rintro ⟨i, c2⟩ ⟨hi, hc2⟩
  simp only at hi hc2
  have hil := innerS_len p hh m (outerS l m k) i
  obtain ⟨o, ho⟩ : ∃ o, o = innerS p hh m (outerS l m k) i := ⟨_, rfl⟩
  rw [← ho] at hil hc2 ⊢
  refine G.seq ?_
  refine G.seqR tfine rfl trivial ?_
  refine G.cond (b := decide (((i + 1 : Nat) : Int) ≤ m)) rfl (fun h4 => ?_) (fun h4 => ?_)
  rotate_left
  · have h4 := of_decide_eq_false h4
    have him : i = m.toNat := by omega
    subst him
    refine G.exit ?_
    refine G.reg tfine rfl trivial ?_
    rw [← hstep] at ho
    subst ho
    refine ⟨(k + 1, c2), ⟨hlt, hc2⟩, (by show l.length - (k + 1) < l.length - k; omega), St.le_of rfl ⟨⟨_, rfl, Blk.le_refl _⟩, ⟨_, rfl, Blk.le_refl _⟩, ⟨_, rfl, Blk.le_refl _⟩, trivial⟩ ⟨rfl, rfl, rfl, ?_, trivial⟩⟩
    simp [up, I]
    rw [IntWalk.i64_in _ (by omega)]
  have h4 := of_decide_eq_true h4
  have him : i < m.toNat := by omega
  have hm0 : m ≠ 0 := by omega
  refine G.skip ?_
  refine G.seq (G.block ?_)
  refine G.seqR tfine rfl ⟨hm0, trivial⟩ ?_
  have ex : IntKind.i64.wrap (p + IntKind.i64.wrap ((IntKind.i64.wrap (((i + 1 : Nat) : Int) * hh)).tdiv m)) = plX p hh m (i + 1) := rfl
  rw [ex]
  obtain ⟨x, hx⟩ : ∃ x, x = plX p hh m (i + 1) := ⟨_, rfl⟩
  rw [← hx]
  have ho1 : 1 ≤ o.length := by omega
  have hw2 : IntKind.i64.wrap ((o.length : Int) - 1) = ((o.length - 1 : Nat) : Int) := by rw [show (o.length : Int) - 1 = ((o.length - 1 : Nat) : Int) by omega]; exact IntWalk.i64_in _ (by omega)
  have hw3 : IntKind.i64.wrap (((i + 1 : Nat) : Int) + 1) = ((i + 1 + 1 : Nat) : Int) := IntWalk.i64_in _ (by omega)
  have hin : innerS p hh m (outerS l m k) (i + 1) = pushX o x := by rw [innerS, ← ho, ← hx]
  refine G.seqR tfine rfl ?_ ?_
  · simp only [AllP, hw2]
    and_intros <;> first | trivial | omega
  refine G.cond (b := decide (x > o.getD (0 + (IntKind.i64.wrap ((o.length : Int) - 1)).toNat) 0)) rfl (fun h5 => ?_) (fun h5 => ?_)
  · rw [hw2, Int.toNat_natCast, Nat.zero_add] at h5
    have hpx : pushX o x = o ++ [x] := by rw [pushX, if_pos (show x > lastI o from of_decide_eq_true h5)]
    refine G.regC tfine rfl trivial ?_
    refine GO.appendOwn (x := 66) (n := o.length) (c := c2) (el := elI o) [I x] [(0, .v (.c (.inp 805 A l.length c))), (1, .v (.c (.k (I m)))), (7, .v (.c (.k (I (k + 1 : Nat))))), (8, .v (.c (.k (I p)))), (9, .v (.c (.k (I hh)))), (10, .v (.c (.k (I (i + 1 : Nat)))))]
      [(801, .say (sb (.slice A l.length c)) (fun w => RdRow w A l.length 2 (elP l))), (805, .ro 2 l.length (elP l))] apT35 rfl rfl rfl rfl rfl rfl rfl rfl (Nat.le_refl _) rfl rfl rfl (fun u hu => by simp at hu; subst hu; rfl)
      (St.le_of rfl ⟨⟨_, rfl, Blk.le_refl _⟩, ⟨_, rfl, Blk.le_refl _⟩, trivial⟩ ⟨rfl, rfl, rfl, rfl, rfl, rfl, trivial⟩) (fun z b h => ?_) rfl (fun k hk => rfl) (by unfold maxLen; omega) (by omega) fun c' hc' => ?_
    · rcases lkM_mem (ml := [(801, .say (sb (.slice A l.length c)) (fun w => RdRow w A l.length 2 (elP l))), (805, .ro 2 l.length (elP l))]) (j := z) with h6 | ⟨q, hq, rfl, h6⟩
      · have h : lkM _ z = some b := h
        rw [h6] at h; cases h
      · have h : lkM _ q.1 = some b := h
        simp at hq
        rcases hq with rfl | rfl
        · exact ⟨h, (by decide : (801 : Nat) ≠ 66)⟩
        · exact ⟨h, (by decide : (805 : Nat) ≠ 66)⟩
    refine GO.fin tfine rfl trivial ?_
    refine G.reg tfine rfl trivial ?_
    refine ⟨(i + 1, c'), ⟨him, ?_⟩, (by show m.toNat - (i + 1) < m.toNat - i; omega), ?_⟩
    · show (innerS p hh m (outerS l m k) (i + 1)).length ≤ c'
      rw [hin, hpx]; simpa using hc'
    show St.le _ (St.of [(0, .v (.c (.inp 805 A l.length c))), (1, .v (.c (.k (I m)))), (6, .v (.c (.slc 66 0 1 (innerS p hh m (outerS l m k) (i + 1)).length c'))), (7, .v (.c (.k (I (k + 1 : Nat))))), (8, .v (.c (.k (I p)))), (9, .v (.c (.k (I hh)))), (10, .v (.c (.k (I (i + 1 + 1 : Nat)))))]
      [(801, .say (sb (.slice A l.length c)) (fun w => RdRow w A l.length 2 (elP l))), (805, .ro 2 l.length (elP l)), (66, .arr 3 1 (innerS p hh m (outerS l m k) (i + 1)).length (elI (innerS p hh m (outerS l m k) (i + 1))) ((c' - (innerS p hh m (outerS l m k) (i + 1)).length) * 1))]) _
    rw [hin, hpx, show (o ++ [x]).length = o.length + 1 by simp]
    refine St.le_of rfl ⟨⟨_, rfl, Blk.le_refl _⟩, ⟨_, rfl, Blk.le_refl _⟩, ⟨_, rfl, rfl, rfl, Nat.le_refl _, fun j hj => (elI_snoc o x j hj).symm, Nat.le_refl _⟩, trivial⟩ ⟨rfl, rfl, rfl, rfl, rfl, rfl, ?_, trivial⟩
    show TV.v (.c (.k (I (IntKind.i64.wrap (((i + 1 : Nat) : Int) + 1))))) = _
    rw [hw3]
  · rw [hw2, Int.toNat_natCast, Nat.zero_add] at h5
    have hpx : pushX o x = o := by rw [pushX, if_neg (show ¬ x > lastI o from of_decide_eq_false h5)]
    refine G.skip ?_
    refine G.reg tfine rfl trivial ?_
    refine ⟨(i + 1, c2), ⟨him, ?_⟩, (by show m.toNat - (i + 1) < m.toNat - i; omega), ?_⟩
    · show (innerS p hh m (outerS l m k) (i + 1)).length ≤ c2
      rw [hin, hpx]; exact hc2
    show St.le _ (St.of [(0, .v (.c (.inp 805 A l.length c))), (1, .v (.c (.k (I m)))), (6, .v (.c (.slc 66 0 1 (innerS p hh m (outerS l m k) (i + 1)).length c2))), (7, .v (.c (.k (I (k + 1 : Nat))))), (8, .v (.c (.k (I p)))), (9, .v (.c (.k (I hh)))), (10, .v (.c (.k (I (i + 1 + 1 : Nat)))))]
      [(801, .say (sb (.slice A l.length c)) (fun w => RdRow w A l.length 2 (elP l))), (805, .ro 2 l.length (elP l)), (66, .arr 3 1 (innerS p hh m (outerS l m k) (i + 1)).length (elI (innerS p hh m (outerS l m k) (i + 1))) ((c2 - (innerS p hh m (outerS l m k) (i + 1)).length) * 1))]) _
    rw [hin, hpx]
    refine St.le_of rfl ⟨⟨_, rfl, Blk.le_refl _⟩, ⟨_, rfl, Blk.le_refl _⟩, ⟨_, rfl, Blk.le_refl _⟩, trivial⟩ ⟨rfl, rfl, rfl, rfl, rfl, rfl, ?_, trivial⟩
    show TV.v (.c (.k (I (IntKind.i64.wrap (((i + 1 : Nat) : Int) + 1))))) = _
    rw [hw3]
end Go.Proofs.YtphipfmidfoflaaGreat
/- The symbolic executor, part BF: fields behind a constant pointer. Generic over P. -/
set_option linter.unusedVariables false
set_option linter.unusedSimpArgs false
namespace Go.Sx
open Go.RowKit
section
variable {P : Program} {E : Env} {K : Exit → St → Prop} {T : Tab} {ops : Array Oper} {rest : List Oper}
theorem Steps.fieldK (hT : Tab.fine P T) {o : Oper} {C : St} {s ft : TypeId} {y : Operand} {f b off o' n : Nat} {d fd : TyD} {fs : List (Nat × TypeId)} (hg : o.guard = none) (hop : o.op = .fieldAddr s y f) (hd : dstOk E.N o.dst = true) (hy : evT C.t y = .v (.c (.k (.pointer (some ⟨b, off, none⟩)))))
    (hs : T s = some d) (hk : d.kind = .struct fs) (hf : fs[f]? = some (o', ft)) (hfd : T ft = some fd) (hn : fd.size = n + 1) : Steps P E ops o C (.v (.c (.k (.pointer (some ⟨b, off + o', none⟩))))) [] := by
  intro st hle ρ a w hs0 Kc Q hkk
  have hs' := hs0.weakT hle.t
  have e1 : a.eval y = .pointer (some ⟨b, off, none⟩) := by have := hs'.eval y; rw [show (St.mk C.t st.m).ev y = _ from hy] at this; exact this.2
  have hkind := (hT.ok s d hs).kind
  rw [hk] at hkind
  obtain ⟨fields, fd', hu, hff, h1, h2⟩ := struct_field hkind hf
  have hsz := (hT.ok ft fd hfd).size w
  rw [if_pos (by simp [Region.wanted, hg])]
  refine .inl ?_
  refine Snd.go hs0 (dstOk_lt hd) (tv := .v (.c (.k (.pointer (some ⟨b, off + o', none⟩))))) (Snd.here hs0.mem (v := .pointer (some ⟨b, off + o', none⟩)) ?_ ⟨trivial, rfl⟩) fun ρ' a' w' hs'' => hkk ρ' a' w' hs''
  simp only [execOp, hop, Instr.fieldAt, Sem.run_bind, hu w, Result.andThen_ok, hff, e1, Instr.sureAddr, Sem.run_pure, fieldPlace, h2, hsz, hn]
  rw [if_neg (Nat.succ_ne_zero n)]
  simp [Addr.add, h1]
theorem Steps.loadKo (hT : Tab.fine P T) {o : Oper} {C : St} {t b off : Nat} {y : Operand} {S : Nat → Prop} {R : World → Prop} {d : TyD} {ty : TypeId} (X : Nat) (cs cs' : List Value) (hg : o.guard = none) (hop : o.op = .load t y) (hd : dstOk E.N o.dst = true) (hy : evT C.t y = .v (.c (.k (.pointer (some ⟨b, off, none⟩)))))
    (hX : C.m X = some (.say S R)) (hR : ∀ w, R w → w.heap[b]? = some (.cells cs.toArray ty (0, 0))) (ht : T t = some d) (hl : cs'.length = d.size) (hcs : ∀ j v, cs'[j]? = some v → cs[off + j]? = some v) : Steps P E ops o C (.v (loadAV d cs')) [] := by
  intro st hle ρ a w hs Kc Q hk
  have hs' := hs.weakT hle.t
  have hX' : st.m X = some (.say S R) := by
    rcases hle.m X with h | h
    · rw [hX] at h; cases h
    · exact h.trans hX
  have hw := hR w (hs.mem.ok X _ hX').1
  have e1 : a.eval y = .pointer (some ⟨b, off, none⟩) := by have := hs'.eval y; rw [show (St.mk C.t st.m).ev y = _ from hy] at this; exact this.2
  have hrun : (Instr.loadAt t (.pointer (some ⟨b, off, none⟩))).run P w = .ok ((loadAV d cs').conc ρ) w := by
    have := run_load_list (P := P) (hT.ok t d ht) (w := w) (b := b) (o := off) (cs := cs') hl fun j v hj => by
      rw [cell_of_heap hw, List.getElem?_toArray]; exact hcs j v hj
    rw [this]
    unfold loadAV
    cases d.kind.isAgg with
    | true => simp only [cond_true, AV.conc, map_conc_k]
    | false => rfl
  rw [if_pos (by simp [Region.wanted, hg])]
  refine .inl ?_
  refine Snd.go hs (dstOk_lt hd) (tv := .v (loadAV d cs')) (Snd.here hs.mem (v := (loadAV d cs').conc ρ) ?_ ⟨loadAV_ok _ _ _ _, rfl⟩) fun ρ' a' w' hs'' => hk ρ' a' w' hs''
  simp only [execOp, hop, Sem.run_bind, e1, hrun, Result.andThen_ok, Sem.run_pure]
end
end Go.Sx
/- Top: the iterator over the slices of a lying cask. -/
set_option linter.unusedVariables false
set_option linter.unusedSimpArgs false
set_option maxRecDepth 8000
set_option maxHeartbeats 2000000
namespace Go.Proofs.YtphipfmidfoflaaGreat
open Go.Sx Go.RowKit
/-- A closure over two boxes; the second holds a struct. -/
def BoxC (f : FuncId) (u : Value) (vs : List Value) (tx ty : TypeId) (w w' : World) (e : Ending) : Prop := ∃ g : Nat × Nat, e = .returned (.func (.func f) #[] #[Pt g.1, Pt g.2]) ∧ Below w.heap.size w w' ∧ w'.heap[g.1]? = some (.cells #[u] tx (0, 0)) ∧ w'.heap[g.2]? = some (.cells vs.toArray ty (0, 0)) ∧ (w.heap.size ≤ g.1 ∧ g.1 < w'.heap.size) ∧ (w.heap.size ≤ g.2 ∧ g.2 < w'.heap.size)
theorem retBoxC {P : Program} {T : Tab} (hT : Tab.fine P T) {w : World} {N : Nat} {fn : Func} {st : St} {f x y : Nat} {u : Value} {vs : List Value} {tx ty : TypeId} {r : ResultVar} (hr : fn.results.toList = [r]) (h1 : resOne T st r = .v (.c (.fn f [.own x 0, .own y 0]))) (hx : st.m x = some (.var tx [.k u])) (hy : st.m y = some (.var ty (vs.map .k))) :
    retK P ⟨w, [], N, none, []⟩ fn (fun e w' => BoxC f u vs tx ty w w' e) .ret st := by
  refine ⟨.inl rfl, fun ρ a w' hs => ?_⟩
  obtain ⟨h6, _⟩ := resOne_run hT hs h1
  have k1 := hs.mem.ok x _ hx
  have k2 := hs.mem.ok y _ hy
  have p1 : w.heap.size ≤ (ρ x).1 := by
    rcases hs.mem.ownGe hx trivial with h | h
    · exact h
    · cases h
  have p2 : w.heap.size ≤ (ρ y).1 := by
    rcases hs.mem.ownGe hy trivial with h | h
    · exact h
    · cases h
  refine ⟨_, results_one hr h6, ((ρ x).1, (ρ y).1), ?_, hs.mem.fr.toBelow, ?_, ?_, ⟨p1, hs.mem.lt hx trivial⟩, ⟨p2, hs.mem.lt hy trivial⟩⟩
  · simp [AV.conc, AC.conc, Cap.conc, Pt, k1.1, k2.1]
  · simpa [AC.conc] using k1.2.2.1
  · have := k2.2.2.1
    rwa [map_kc] at this
def caskL (s : ByteArray) (pos : Int) (A : Option Addr) (c : Nat) (l : List (Int × Int)) (decl : Int) : List Value := [.string s, I pos, .slice A l.length c, I decl]
theorem all_any (s : ByteArray) (pos : Int) (A : Option Addr) (c : Nat) (l : List (Int × Int)) (decl : Int) (B : Option Addr) (d : Nat) (p : List Int) (w : World) : Calls Tryz.prog 92 #[.agg #[.string s, I pos, .slice A l.length c, I decl], .slice B p.length d] w fun e w' => BoxC 112 (.slice B p.length d) (caskL s pos A c l decl) 51 24 w w' e := by
  refine enterSay [] [.agg [.k (.string s), .k (I pos), .k (.slice A l.length c), .k (I decl)], .c (.k (.slice B p.length d))] [] Tryz.func92 rfl 6 Tryz.ntmps92 rfl rfl ⟨⟨trivial, trivial, trivial, trivial, trivial⟩, trivial, trivial⟩ trivial ?_
  refine G.seqR tfine rfl trivial ?_
  refine G.seqR tfine rfl trivial ?_
  exact G.ret (retBoxC tfine rfl rfl rfl rfl)
/-- the i-th slice: its length, the lesser radius and the greater one -/
def slA (l : List (Int × Int)) (p : List Int) (i : Nat) : Int := IntKind.i64.wrap (p.getD (i + 1) 0 - p.getD i 0)
def slB (l : List (Int × Int)) (p : List Int) (i : Nat) : Int := if (profile_At l (p.getD (i + 1) 0)).1 < (profile_At l (p.getD i 0)).1 then (profile_At l (p.getD (i + 1) 0)).1 else (profile_At l (p.getD i 0)).1
def slC (l : List (Int × Int)) (p : List Int) (i : Nat) : Int := if (profile_At l (p.getD (i + 1) 0)).2.1 > (profile_At l (p.getD i 0)).2.1 then (profile_At l (p.getD (i + 1) 0)).2.1 else (profile_At l (p.getD i 0)).2.1
def slV3 (l : List (Int × Int)) (p : List Int) (i : Nat) : Array Value := #[.agg #[I (slA l p i), I (slB l p i), I (slC l p i)]]
theorem all_iter (s : ByteArray) (pos : Int) (A : Option Addr) (c : Nat) (l : List (Int × Int)) (decl : Int) (B : Option Addr) (d : Nat) (p : List Int) (g : Nat × Nat) (w : World) (h1 : w.heap[g.1]? = some (.cells #[.slice B p.length d] 51 (0, 0))) (h2 : w.heap[g.2]? = some (.cells (caskL s pos A c l decl).toArray 24 (0, 0)))
    (h3 : RdRow w A l.length 2 (elP l)) (h4 : RdRow w B p.length 1 (elI p)) (hn : l.length ≤ 100000) (hpn : p.length ≤ 100000) :
    IterC Tryz.prog (.func (.func 112) #[] #[Pt g.1, Pt g.2]) (fun k => (k = g.1 ∨ k = g.2) ∨ sb (.slice A l.length c) k ∨ sb (.slice B p.length d) k) (p.length - 1) (slV3 l p) w := by
  refine ⟨112, #[Pt g.1, Pt g.2], rfl, fun args w => Tryz.call112 args w, ?_⟩
  intro lp L go J W hrd hsz hL hJs hR hJ
  rw [show (#[.func (.yield lp) #[] #[]] ++ #[Pt g.1, Pt g.2] : Array Value) = #[.func (.yield lp) #[] #[], Pt g.1, Pt g.2] from by simp]
  have e1 : W.heap[g.1]? = some (.cells #[.slice B p.length d] 51 (0, 0)) := (hrd g.1 (.inl (.inl rfl))).trans h1
  have e2 : W.heap[g.2]? = some (.cells (caskL s pos A c l decl).toArray 24 (0, 0)) := (hrd g.2 (.inl (.inr rfl))).trans h2
  have e3 : RdRow W A l.length 2 (elP l) := steady_row (cap := c) w W (fun k hk => hrd k (.inr (.inl hk))) hsz h3
  have e4 : RdRow W B p.length 1 (elI p) := steady_row (cap := d) w W (fun k hk => hrd k (.inr (.inr hk))) hsz h4
  have hLW : ∀ k ∈ L, k < W.heap.size := fun k hk => (hL k hk).1
  obtain ⟨S1, hS1⟩ : ∃ S1 : Nat → Prop, S1 = fun k => (k = g.1 ∨ k = g.2) ∨ sb (.slice A l.length c) k ∨ sb (.slice B p.length d) k := ⟨_, rfl⟩
  obtain ⟨R1, hR1⟩ : ∃ R1 : World → Prop, R1 = fun w => (w.heap[g.1]? = some (.cells #[.slice B p.length d] 51 (0, 0)) ∧ w.heap[g.2]? = some (.cells (caskL s pos A c l decl).toArray 24 (0, 0))) ∧ RdRow w A l.length 2 (elP l) ∧ RdRow w B p.length 1 (elI p) := ⟨_, rfl⟩
  have hst1 : Steady S1 R1 := by rw [hS1, hR1]; exact ((Steady.heap (.inl (.inl rfl))).and (Steady.heap (.inl (.inr rfl)))).and ((steady_row.mono fun k hk => .inr (.inl hk)).and (steady_row.mono fun k hk => .inr (.inr hk)))
  have hlt1 : ∀ k, S1 k → k < W.heap.size := by
    rw [hS1]
    rintro k ((rfl | rfl) | hk | hk)
    · exact lt_of_heap e1
    · exact lt_of_heap e2
    · exact sb_lt e3 k hk
    · exact sb_lt e4 k hk
  have hSL : ∀ k ∈ L, ¬ S1 k := by rw [hS1]; exact fun k hk => (hL k hk).2
  have hbK : ∀ w, R1 w → w.heap[g.1]? = some (.cells #[.slice B p.length d] 51 (0, 0)) := fun w h => by rw [hR1] at h; exact h.1.1
  have hcK : ∀ w, R1 w → w.heap[g.2]? = some (.cells (caskL s pos A c l decl).toArray 24 (0, 0)) := fun w h => by rw [hR1] at h; exact h.1.2
  have hlK : ∀ w, R1 w → RdRow w A l.length 2 (elP l) := fun w h => by rw [hR1] at h; exact h.2.1
  have hrK : ∀ w, R1 w → RdRow w B p.length 1 (elI p) := fun w h => by rw [hR1] at h; exact h.2.2
  have hsK : ∀ k, sb (.slice B p.length d) k → S1 k := fun k hk => by rw [hS1]; exact .inr (.inr hk)
  have hR0 : R1 W := by rw [hR1]; exact ⟨⟨e1, e2⟩, e3, e4⟩
  clear hS1 hR1
  refine enterSay L [.c (.k (.func (.yield lp) #[] #[])), .c (.k (Pt g.1)), .c (.k (Pt g.2))] [(1, .say S1 R1), (2, .say (fun k => k ∈ L) (J 0))] Tryz.func112 rfl 60 Tryz.ntmps112 rfl rfl ⟨trivial, trivial, trivial, trivial⟩
    ⟨⟨hR0, hlt1, hst1⟩, ⟨fun h => h.elim, fun h => h.elim, trivial⟩, ⟨hJ, hLW, hJs 0⟩, trivial, trivial⟩ ?_
  refine G.seqR tfine rfl trivial ?_
  refine G.block (G.loop (fun i : Nat => St.of [(0, .v (.c (.k (.func (.yield lp) #[] #[])))), (1, .v (.c (.k (Pt g.1)))), (2, .v (.c (.k (Pt g.2)))), (4, .v (.c (.k (I (i + 1 : Nat)))))] [(1, .say S1 R1), (2, .say (fun k => k ∈ L) (J i))])
    (fun i => i ≤ p.length - 1 ∧ ∀ j, j < i → go j = true) (fun i => p.length - 1 - i) 0 ⟨Nat.zero_le _, fun j hj => absurd hj (Nat.not_lt_zero j)⟩ (St.le_of rfl ⟨⟨_, rfl, Blk.le_refl _⟩, ⟨_, rfl, Blk.le_refl _⟩, trivial⟩ ⟨rfl, rfl, rfl, rfl, trivial⟩) ?_)
  rintro i ⟨hi, hgo⟩
  refine G.seq ?_
  refine G.seqC tfine rfl trivial ?_
  refine GO.steps (Steps.loadK tfine 1 [.slice B p.length d] rfl rfl rfl rfl rfl hbK rfl rfl) ?_
  refine GO.fin tfine rfl trivial ?_
  refine G.cond (b := decide (((i + 1 : Nat) : Int) < (p.length : Int))) rfl (fun h3 => ?_) (fun h3 => ?_)
  rotate_left
  · have h3 := of_decide_eq_false h3
    refine G.exit ?_
    refine ⟨.inr rfl, fun ρ a w' hs => ⟨_, results_run tfine hs rfl, ⟨_, rfl⟩, ?_, i, ⟨hi, .inl ⟨by omega, fun j hj => hgo j (by omega)⟩⟩, (hs.mem.ok 2 _ rfl).1⟩⟩
    have := hs.mem.fr
    simp only [borT_snd] at this
    exact this
  have h3 := of_decide_eq_true h3
  have hlt : i + 1 < p.length := by omega
  refine G.skip ?_
  refine G.seq ?_
  refine G.block ?_
  have hw : IntKind.i64.wrap ((i : Nat) : Int) = (i : Int) := IntWalk.i64_in _ (by omega)
  have hw1 : IntKind.i64.wrap (((i + 1 : Nat) : Int) - 1) = (i : Int) := by rw [show (((i + 1 : Nat) : Int) - 1) = (i : Int) by omega]; exact hw
  obtain ⟨P1, hP1⟩ : ∃ P1, P1 = p.getD (IntKind.i64.wrap (((i + 1 : Nat) : Int) - 1)).toNat 0 := ⟨_, rfl⟩
  obtain ⟨P2, hP2⟩ : ∃ P2, P2 = p.getD (((i + 1 : Nat) : Int)).toNat 0 := ⟨_, rfl⟩
  -- the first radius
  refine G.seqDraw hmix [0, 1, 0, 0, 8, 28, 60, 127, 255, 511, 511, 0, 3071, 8191] [(2, 701), (12, 5)] rfl rfl rfl ?_
  refine GD.stepF 0 rfl (Steps.fieldK tfine rfl rfl rfl rfl rfl rfl rfl rfl rfl) rfl ?_
  refine GD.stepF 1 rfl (Steps.loadKo tfine 1 (caskL s pos A c l decl) [.slice A l.length c] rfl rfl rfl rfl rfl hcK rfl rfl (fun j v hj => ?_)) rfl ?_
  · cases j with
    | zero => exact hj
    | succ j => cases hj
  refine GD.stepF 2 rfl (Steps.loadOpen tfine 1 701 B p.length d 1 (elI p) rfl rfl rfl rfl rfl rfl hbK rfl rfl rfl hrK hsK rfl rfl) rfl ?_
  refine GD.more tfine 3 rfl rfl ?_ ?_
  · simp only [AllP, hw1]
    and_intros <;> first | trivial | omega
  refine GD.call (v := .tuple #[.agg #[I (profile_At l (p.getD (IntKind.i64.wrap (((i + 1 : Nat) : Int) - 1)).toNat 0)).1, I (profile_At l (p.getD (IntKind.i64.wrap (((i + 1 : Nat) : Int) - 1)).toNat 0)).2.1], I (profile_At l (p.getD (IntKind.i64.wrap (((i + 1 : Nat) : Int) - 1)).toNat 0)).2.2]) 7 rfl rfl rfl rfl rfl (fun args w => Tryz.call95 args w) (fun m hle ρ w hs hok => profile_At_any A c l _ w (hlK _ (hs.ok 1 _ (LeM.at hle rfl)).1) hn) ?_
  refine GD.fin tfine 8 rfl rfl trivial ?_
  refine G.weaken (st' := St.of [(0, .v (.c (.k (.func (.yield lp) #[] #[])))), (1, .v (.c (.k (Pt g.1)))), (2, .v (.c (.k (Pt g.2)))), (4, .v (.c (.k (I (i + 1 : Nat))))), (5, .v (.c (.ptr 5 0 0 0)))] [(1, .say S1 R1), (2, .say (fun k => k ∈ L) (J i)), (5, .var 33 [.k (I (profile_At l P1).1), .k (I (profile_At l P1).2.1)])])
    (St.le_of rfl ⟨⟨_, rfl, Blk.le_refl _⟩, ⟨_, rfl, Blk.le_refl _⟩, ⟨_, ?_, Blk.le_refl _⟩, trivial⟩ ⟨rfl, rfl, rfl, rfl, rfl, trivial⟩) ?_
  · rw [hP1]; rfl
  -- the second one
  refine G.seqDraw hmix [0, 1, 0, 0, 12, 28, 63, 127, 255, 255, 0, 1535, 4095] [(2, 702), (11, 7)] rfl rfl rfl ?_
  refine GD.stepF 0 rfl (Steps.fieldK tfine rfl rfl rfl rfl rfl rfl rfl rfl rfl) rfl ?_
  refine GD.stepF 1 rfl (Steps.loadKo tfine 1 (caskL s pos A c l decl) [.slice A l.length c] rfl rfl rfl rfl rfl hcK rfl rfl (fun j v hj => ?_)) rfl ?_
  · cases j with
    | zero => exact hj
    | succ j => cases hj
  refine GD.stepF 2 rfl (Steps.loadOpen tfine 1 702 B p.length d 1 (elI p) rfl rfl rfl rfl rfl rfl hbK rfl rfl rfl hrK hsK rfl rfl) rfl ?_
  refine GD.more tfine 3 rfl rfl ?_ ?_
  · simp only [AllP]
    and_intros <;> first | trivial | omega
  refine GD.call (v := .tuple #[.agg #[I (profile_At l (p.getD (((i + 1 : Nat) : Int)).toNat 0)).1, I (profile_At l (p.getD (((i + 1 : Nat) : Int)).toNat 0)).2.1], I (profile_At l (p.getD (((i + 1 : Nat) : Int)).toNat 0)).2.2]) 6 rfl rfl rfl rfl rfl (fun args w => Tryz.call95 args w) (fun m hle ρ w hs hok => profile_At_any A c l _ w (hlK _ (hs.ok 1 _ (LeM.at hle rfl)).1) hn) ?_
  refine GD.fin tfine 7 rfl rfl trivial ?_
  refine G.weaken (st' := St.of [(0, .v (.c (.k (.func (.yield lp) #[] #[])))), (1, .v (.c (.k (Pt g.1)))), (2, .v (.c (.k (Pt g.2)))), (4, .v (.c (.k (I (i + 1 : Nat))))), (5, .v (.c (.ptr 5 0 0 0))), (7, .v (.c (.ptr 7 0 0 0)))] [(1, .say S1 R1), (2, .say (fun k => k ∈ L) (J i)), (5, .var 33 [.k (I (profile_At l P1).1), .k (I (profile_At l P1).2.1)]), (7, .var 33 [.k (I (profile_At l P2).1), .k (I (profile_At l P2).2.1)])])
    (St.le_of rfl ⟨⟨_, rfl, Blk.le_refl _⟩, ⟨_, rfl, Blk.le_refl _⟩, ⟨_, rfl, Blk.le_refl _⟩, ⟨_, ?_, Blk.le_refl _⟩, trivial⟩ ⟨rfl, rfl, rfl, rfl, rfl, rfl, trivial⟩) ?_
  · rw [hP2]; rfl
  -- the slice
  refine G.tot [703, 704] ?_
  refine G.seqDraw hmix [0, 0, 0, 6, 14, 0, 0, 64, 224, 480, 1022, 0, 2048, 0, 8192, 30720, 0, 65536, 0, 262144, 983040, 2097150, 4194303, 8388607] [(1, 703), (5, 704), (22, 2), (22, 703), (22, 704)] rfl rfl rfl ?_
  refine GD.more tfine 0 rfl rfl trivial ?_
  refine GD.stepF 1 rfl (Steps.loadOpen tfine 1 703 B p.length d 1 (elI p) rfl rfl rfl rfl rfl rfl hbK rfl rfl rfl hrK hsK rfl rfl) rfl ?_
  refine GD.more tfine 2 rfl rfl ?_ ?_
  · simp only [AllP]
    and_intros <;> first | trivial | omega
  refine GD.stepF 5 rfl (Steps.loadOpen tfine 1 704 B p.length d 1 (elI p) rfl rfl rfl rfl rfl rfl hbK rfl rfl rfl hrK hsK rfl rfl) rfl ?_
  refine GD.more tfine 6 rfl rfl ?_ ?_
  · simp only [AllP, hw1]
    and_intros <;> first | trivial | omega
  obtain ⟨ml, hml⟩ : ∃ ml : List (Nat × Blk), ml = [(1, .say S1 R1), (2, .say (fun k => k ∈ L) (J i)), (5, .var 33 [.k (I (profile_At l P1).1), .k (I (profile_At l P1).2.1)]), (7, .var 33 [.k (I (profile_At l P2).1), .k (I (profile_At l P2).2.1)])] := ⟨_, rfl⟩
  have htq : ∀ {recs : List DR} {l0 : List Oper} {cls : List Nat} {X : List (Nat × Nat)} {t0 : Nat → TV}, recs.length = 22 → shutAt cls 22 l0.length = true → (∀ y ∈ [703, 704], ((canF l0 cls X ⟨t0, totM [703, 704] (lkM ml)⟩ 22 recs).m y).isSome = true) → ∀ y, ((canF l0 cls X ⟨t0, totM [703, 704] (lkM ml)⟩ 22 recs).m y).isSome = true :=
    fun h1 h2 h3 => canF_tot [703, 704] h1 (fun y hy => totM_some _ _ y hy) h3 h2
  have hcm : ∀ y b, totM [703, 704] (lkM ml) y = some b → y = 2 ∨ y ∈ [703, 704] ∨ (∃ sz el, b = .ro sz 0 el) ∨ (y < 1000 ∧ Blk.calm L 0 b) := by
    refine totM_calm ?_
    rw [hml]
    exact ⟨.inr ⟨(by show (1 : Nat) < 1000; decide), hSL⟩, .inl rfl, .inr ⟨(by show (5 : Nat) < 1000; decide), trivial⟩, .inr ⟨(by show (7 : Nat) < 1000; decide), trivial⟩, trivial⟩
  subst hml
  refine GD.stepF 22 rfl (Steps.yieldC (vs := [.agg #[I (IntKind.i64.wrap (p.getD (((i + 1 : Nat) : Int)).toNat 0 - p.getD (IntKind.i64.wrap (((i + 1 : Nat) : Int) - 1)).toNat 0)), I (if (profile_At l P2).1 < (profile_At l P1).1 then (profile_At l P2).1 else (profile_At l P1).1), I (if (profile_At l P2).2.1 > (profile_At l P1).2.1 then (profile_At l P2).2.1 else (profile_At l P1).2.1)]]) 2 i [703, 704] hR hJs (by omega) hgo rfl hLW rfl rfl rfl rfl rfl rfl ⟨rfl, trivial⟩ ?_ rfl ?_ ?_) rfl ?_
  · rw [hP1, hP2, hw1]; rfl
  · exact htq rfl rfl (by
      intro y hy
      rcases List.mem_cons.1 hy with rfl | hy
      · exact rfl
      rcases List.mem_cons.1 hy with rfl | hy
      · exact rfl
      cases hy)
  · intro y b0 hy hk hb
    have hq : y = 2 ∨ y ∈ [703, 704] ∨ (∃ sz el, b0 = .ro sz 0 el) ∨ (y < 1000 ∧ Blk.calm L 0 b0) := by
      have hb2 := hb
      refine canF_all (Q := fun y b => y = 2 ∨ y ∈ [703, 704] ∨ (∃ sz el, b = .ro sz 0 el) ∨ (y < 1000 ∧ Blk.calm L 0 b)) (i := 22) ?_ ?_ ?_ y b0 hb2
      · rfl
      · exact hcm
      · simp [allRc, allMs]
    rcases hq with h | h | h
    · exact absurd h hy
    · exact absurd h hk
    · exact h
  refine GD.fin tfine 23 rfl rfl trivial ?_
  refine G.cond (b := !(go i)) rfl (fun h4 => ?_) (fun h4 => ?_)
  · have h4 : go i = false := by simpa using h4
    refine G.ret ⟨.inl rfl, fun ρ a w' hs => ⟨_, results_run tfine hs rfl, ⟨_, rfl⟩, ?_, i + 1, ⟨by omega, .inr ⟨i, rfl, hgo, h4⟩⟩, (hs.mem.ok 2 _ rfl).1⟩⟩
    have := hs.mem.fr
    simp only [borT_snd] at this
    exact this
  have h4 : go i = true := by simpa using h4
  refine G.skip ?_
  refine G.reg tfine rfl trivial ?_
  refine ⟨i + 1, ⟨by omega, fun j hj => ?_⟩, (by show p.length - 1 - (i + 1) < p.length - 1 - i; omega), ?_⟩
  · rcases Nat.lt_or_ge j i with h | h
    · exact hgo j h
    · rw [show j = i by omega]; exact h4
  · exact St.le_of rfl ⟨⟨_, rfl, Blk.le_refl _⟩, ⟨_, rfl, Blk.le_refl _⟩, trivial⟩ ⟨rfl, rfl, rfl, by simp [up, I]; rw [IntWalk.i64_in _ (by omega)], trivial⟩
end Go.Proofs.YtphipfmidfoflaaGreat
/- Top: the space of a lying cask between heights. -/
set_option linter.unusedVariables false
set_option linter.unusedSimpArgs false
set_option maxRecDepth 8000
set_option maxHeartbeats 2000000
namespace Go.Proofs.YtphipfmidfoflaaGreat
open Go.Sx Go.RowKit
theorem betAdd_any (a b s t : Int) (g : Nat) (w : World) (hb : Brs w [⟨1000, g, 33, [I s, I t]⟩]) :
    Calls Tryz.prog 91 #[I a, I b, .pointer (some ⟨g, 0, none⟩)] w fun e w' => e = .returned (.tuple #[]) ∧ Fr w [g] w' ∧
      ∀ b' ∈ ([⟨1000, 33, [I (IntKind.i64.wrap (s + a)), I (IntKind.i64.wrap (t + b))]⟩] : List Tn), ∀ k, (b'.x, k) ∈ [(1000, g)] → w'.heap[k]? = some (.cells b'.cs.toArray b'.ty (0, 0)) := by
  refine enterBor tfine [⟨1000, 33, [I (IntKind.i64.wrap (s + a)), I (IntKind.i64.wrap (t + b))]⟩] Tryz.func91 rfl 15 Tryz.ntmps91 [.c (.k (I a)), .c (.k (I b)), .c (.ptr 1000 0 0 0)] _ hb rfl rfl ⟨trivial, trivial, ⟨_, .head _, rfl⟩, trivial⟩ ?_
  refine G.reg tfine rfl trivial ?_
  exact ⟨.inr rfl, rfl, rfl, trivial⟩
def itA (f : FuncId) (g : Nat × Nat) : Value := .func (.func f) #[] #[Pt g.1, Pt g.2]
def sbA (A : Option Addr) (n c : Nat) (B : Option Addr) (q d : Nat) (g : Nat × Nat) (k : Nat) : Prop := (k = g.1 ∨ k = g.2) ∨ sb (.slice A n c) k ∨ sb (.slice B q d) k
def itS (A : Option Addr) (c : Nat) (l : List (Int × Int)) (B : Option Addr) (d : Nat) (p : List Int) (g : Nat × Nat) (w : World) : Prop := IterC Tryz.prog (itA 112 g) (sbA A l.length c B p.length d g) (p.length - 1) (slV3 l p) w
theorem all_say (s : ByteArray) (pos : Int) (A : Option Addr) (c : Nat) (l : List (Int × Int)) (decl : Int) (B : Option Addr) (d : Nat) (p : List Int) (w : World) (h3 : RdRow w A l.length 2 (elP l)) (h4 : RdRow w B p.length 1 (elI p)) (hn : l.length ≤ 100000) (hpn : p.length ≤ 100000) :
    Calls Tryz.prog 92 #[.agg #[.string s, I pos, .slice A l.length c, I decl], .slice B p.length d] w fun e w' => ∃ g : Nat × Nat, e = .returned (itA 112 g) ∧ Below w.heap.size w w' ∧ itS A c l B d p g w' ∧
    (∀ k, sbA A l.length c B p.length d g k → (w.heap.size ≤ k ∨ (sb (.slice A l.length c) k ∨ sb (.slice B p.length d) k)) ∧ k < w'.heap.size) ∧ Steady (sbA A l.length c B p.length d g) (itS A c l B d p g) := by
  refine (all_any s pos A c l decl B d p w).mono ?_
  rintro e w' ⟨g, rfl, hb, h1, h2, h5, h6⟩
  refine ⟨g, rfl, hb, all_iter s pos A c l decl B d p g w' h1 h2 (h3.below hb) (h4.below hb) hn hpn, ?_, IterC.steady⟩
  rintro k ((rfl | rfl) | hk | hk)
  · exact ⟨.inl h5.1, h5.2⟩
  · exact ⟨.inl h6.1, h6.2⟩
  · exact ⟨.inr (.inl hk), Nat.lt_of_lt_of_le (sb_lt h3 k hk) hb.size⟩
  · exact ⟨.inr (.inr hk), Nat.lt_of_lt_of_le (sb_lt h4 k hk) hb.size⟩
/-- the space of the first slices -/
def betS (l : List (Int × Int)) (p hs : List Int) (dp : Int) : Nat → Int × Int
  | 0 => (0, 0)
  | i + 1 => (IntKind.i64.wrap ((betS l p hs dp i).1 + IntKind.i64.wrap (slA l p i * (segArea (slB l p i) (IntKind.i64.wrap (dp.tdiv 2)) hs).1)),
      IntKind.i64.wrap ((betS l p hs dp i).2 + IntKind.i64.wrap (slA l p i * (segArea (slC l p i) (IntKind.i64.wrap (dp.tdiv 2)) hs).2.1)))
def betM (l : List (Int × Int)) (p hs : List Int) (dp : Int) : Int × Int := betS l p hs dp (p.length - 1)
theorem between_lying_any (s : ByteArray) (pos : Int) (A : Option Addr) (c : Nat) (l : List (Int × Int)) (decl : Int) (B : Option Addr) (d : Nat) (p : List Int) (H : Option Addr) (e : Nat) (hs : List Int) (w : World) (h3 : RdRow w A l.length 2 (elP l)) (h4 : RdRow w B p.length 1 (elI p)) (h5 : RdRow w H hs.length 1 (elI hs)) (hn : l.length ≤ 100000) (hpn : p.length ≤ 100000) (hhn : hs.length ≤ 100000) :
    Calls Tryz.prog 57 #[.agg #[.string s, I pos, .slice A l.length c, I decl], .slice B p.length d, .slice H hs.length e] w fun e w' => e = .returned (.agg #[I (betM l p hs (depthM s pos l decl).1).1, I (betM l p hs (depthM s pos l decl).1).2]) ∧ Below w.heap.size w w' := by
  refine enterGR [] [.agg [.k (.string s), .k (I pos), .k (.slice A l.length c), .k (I decl)], .c (.k (.slice B p.length d)), .c (.k (.slice H hs.length e))]
    [(801, .say (fun k => sb (.slice A l.length c) k ∨ sb (.slice B p.length d) k) (fun w => RdRow w A l.length 2 (elP l) ∧ RdRow w B p.length 1 (elI p))), (803, .say (sb (.slice H hs.length e)) (fun w => RdRow w H hs.length 1 (elI hs)))] Tryz.func57 rfl 57 Tryz.ntmps57 rfl rfl ⟨⟨trivial, trivial, trivial, trivial, trivial⟩, trivial, trivial, trivial⟩
    ⟨⟨⟨h3, h4⟩, fun k hk => hk.elim (sb_lt h3 k) (sb_lt h4 k), (steady_row.mono fun k hk => .inl hk).and (steady_row.mono fun k hk => .inr hk)⟩, ⟨fun h => h.elim, fun h => h.elim, trivial⟩, ⟨h5, sb_lt h5, steady_row⟩, trivial, trivial⟩ ?_
  obtain ⟨dp, hdp⟩ : ∃ dp, dp = (depthM s pos l decl).1 := ⟨_, rfl⟩
  refine GR.seqR rfl tfine rfl trivial ?_
  refine GR.seqC rfl tfine rfl trivial ?_
  refine GO.callPlain (v := .tuple #[I dp, I (depthM s pos l decl).2]) rfl rfl rfl rfl (fun args w => Tryz.call7 args w) (fun ρ w hs hok => by rw [hdp]; exact depth_any s pos A c l decl w (hs.ok 801 _ rfl).1.1 hn) ?_
  refine GO.fin tfine rfl trivial ?_
  refine GR.seqR rfl tfine rfl trivial ?_
  refine GR.seqR rfl tfine rfl trivial ?_
  refine GR.seq2 rfl (G.regC tfine rfl trivial ?_)
  refine GO.callSayX 801 811 (itA 112) (sbA A l.length c B p.length d) (itS A c l B d p) rfl rfl rfl rfl rfl rfl (fun args w => Tryz.call92 args w) (fun ρ w1 hs hok => all_say s pos A c l decl B d p w1 (hs.ok 801 _ rfl).1.1 (hs.ok 801 _ rfl).1.2 hn hpn) fun g => ?_
  refine GO.nil ?_
  refine GR.rangeK rfl 811 821 [⟨9, 33, kL fun i => [I (betS l p hs dp i).1, I (betS l p hs dp i).2]⟩, ⟨10, 126, fun _ => [.fn 91 [.own 9 0]]⟩, ⟨7, 3, kL fun _ => [I dp]⟩, ⟨5, 51, kL fun _ => [.slice H hs.length e]⟩] (fun _ => true) [25] (fun i => [.agg #[I (slA l p i), I (slB l p i), I (slC l p i)]])
      rfl rfl (fun w h => h) (fun k h => h) ⟨rfl, rfl, rfl, rfl, trivial⟩ ⟨fun i => rfl, fun i => rfl, fun i => rfl, fun i => rfl, trivial⟩ rfl rfl rfl (fun i => rfl) (fun i => rfl) rfl rfl rfl ?_ ?_ ?_
  · intro W1 ρ l0 i o hi hgo
    refine G.reg tfine rfl trivial ⟨rfl, rfl, fun o' => ?_⟩
    refine G.block ?_
    refine G.seqC tfine rfl ⟨by decide, trivial⟩ ?_
    refine GO.callPlain (v := .tuple #[.agg #[I (segArea (slB l p i) (IntKind.i64.wrap (dp.tdiv 2)) hs).1, I (segArea (slB l p i) (IntKind.i64.wrap (dp.tdiv 2)) hs).2.1], I (segArea (slB l p i) (IntKind.i64.wrap (dp.tdiv 2)) hs).2.2]) rfl rfl rfl rfl (fun args w => Tryz.call93 args w) (fun ρ w hm hok => segArea_any _ _ H e hs w (hm.ok 803 _ rfl).1 hhn) ?_
    refine GO.fin tfine rfl trivial ?_
    refine G.seqC tfine rfl ⟨by decide, trivial⟩ ?_
    refine GO.callPlain (v := .tuple #[.agg #[I (segArea (slC l p i) (IntKind.i64.wrap (dp.tdiv 2)) hs).1, I (segArea (slC l p i) (IntKind.i64.wrap (dp.tdiv 2)) hs).2.1], I (segArea (slC l p i) (IntKind.i64.wrap (dp.tdiv 2)) hs).2.2]) rfl rfl rfl rfl (fun args w => Tryz.call93 args w) (fun ρ w hm hok => segArea_any _ _ H e hs w (hm.ok 803 _ rfl).1 hhn) ?_
    refine GO.fin tfine rfl trivial ?_
    refine G.regC tfine rfl trivial ?_
    refine GO.callTurn (v := .tuple #[]) [⟨1500, 33, [I (betS l p hs dp (i + 1)).1, I (betS l p hs dp (i + 1)).2]⟩] rfl rfl rfl rfl (fun args w => Tryz.call91 args w) ?_ ?_ ?_
    · intro b hb
      simp only [List.mem_cons, List.not_mem_nil, or_false] at hb
      rcases hb with rfl
      exact ⟨_, rfl⟩
    · intro ρ w hm _
      have h9 := brs1 hm (x := 1500) (tx := 33) (cx := [I (betS l p hs dp i).1, I (betS l p hs dp i).2]) rfl
      have := betAdd_any (IntKind.i64.wrap (slA l p i * (segArea (slB l p i) (IntKind.i64.wrap (dp.tdiv 2)) hs).1)) (IntKind.i64.wrap (slA l p i * (segArea (slC l p i) (IntKind.i64.wrap (dp.tdiv 2)) hs).2.1)) (betS l p hs dp i).1 (betS l p hs dp i).2 (ρ 1500).1 w h9
      have hz := (SatM.var hm (x := 1500) (ty := 33) (cs := [I (betS l p hs dp i).1, I (betS l p hs dp i).2]) rfl).1
      have e2 : ([AV.c (.k (I (IntKind.i64.wrap (slA l p i * (segArea (slB l p i) (IntKind.i64.wrap (dp.tdiv 2)) hs).1)))), .c (.k (I (IntKind.i64.wrap (slA l p i * (segArea (slC l p i) (IntKind.i64.wrap (dp.tdiv 2)) hs).2.1))))].map (AV.conc ρ) ++ [Cap.own 1500 0].map (Cap.conc ρ)).toArray =
          #[I (IntKind.i64.wrap (slA l p i * (segArea (slB l p i) (IntKind.i64.wrap (dp.tdiv 2)) hs).1)), I (IntKind.i64.wrap (slA l p i * (segArea (slC l p i) (IntKind.i64.wrap (dp.tdiv 2)) hs).2.1)), .pointer (some ⟨(ρ 1500).1, 0, none⟩)] := by
        simp [AV.conc, AC.conc, Cap.conc, hz]
      refine e2 ▸ this.mono ?_
      rintro e w' ⟨rfl, hf, hn⟩
      refine ⟨rfl, hf, fun t ht => ?_⟩
      simp only [List.mem_cons, List.not_mem_nil, or_false] at ht
      rcases ht with rfl
      exact hn _ (.head _) (ρ 1500).1 (.head _)
    refine GO.nil ?_
    exact ⟨rfl, rfl, rfl, rfl, rfl, rfl, trivial⟩
  · intro hall D hD hlt
    refine GR.seqR rfl tfine rfl trivial ?_
    refine GR.of rfl (G.ret (endM1 tfine 821 D (.inl rfl) rfl hD rfl rfl fun w' hf => ⟨?_, hf.toBelow⟩))
    rw [← hdp]; rfl
  · intro i hi hgo hgi
    cases hgi
end Go.Proofs.YtphipfmidfoflaaGreat
/- Top: the wet space of lying casks. -/
set_option linter.unusedVariables false
set_option linter.unusedSimpArgs false
set_option maxRecDepth 8000
set_option maxHeartbeats 1000000
namespace Go.Proofs.YtphipfmidfoflaaGreat
open Go.Sx Go.RowKit
def hgt (dip n : Int) (i : Nat) : Int := IntKind.i64.wrap (0 + IntKind.i64.wrap ((IntKind.i64.wrap ((i : Int) * dip)).tdiv n))
def hsM (dip n : Int) (k : Nat) : List Int := (List.range k).map fun i => hgt dip n i
theorem hsM_len (dip n : Int) (k : Nat) : (hsM dip n k).length = k := by simp [hsM]
theorem hsM_succ (dip n : Int) (k : Nat) : hsM dip n (k + 1) = hsM dip n k ++ [hgt dip n k] := by simp [hsM, List.range_succ]
def cutM (s : ByteArray) (pos : Int) (l : List (Int × Int)) (decl dip m n : Int) : Int × Int × Int := if (lying_lies s pos l decl != 0) = true then (0, 0, lying_lies s pos l decl)
  else if (((decide (dip < 0) || decide (dip > (depthM s pos l decl).1)) || !(lying_strips m)) || !(lying_strips n)) = true then (0, 0, 2)
  else if ((slicesM l m).2 != 0) = true then (0, 0, (slicesM l m).2)
  else ((betM l (slicesM l m).1 (hsM dip n (n.toNat + 1)) (depthM s pos l decl).1).1, (betM l (slicesM l m).1 (hsM dip n (n.toNat + 1)) (depthM s pos l decl).1).2, 0)
theorem slicesM_len (l : List (Int × Int)) (m : Int) : (slicesM l m).1.length ≤ 65 := by
  unfold slicesM
  split
  · exact Nat.zero_le _
  split
  · exact Nat.zero_le _
  split
  · exact Nat.zero_le _
  rename_i h
  have := of_decide_eq_false (Bool.eq_false_iff.2 h)
  show (outerS l m (l.length - 1)).length ≤ 65
  omega
theorem cut_any (s : ByteArray) (pos : Int) (A : Option Addr) (c : Nat) (l : List (Int × Int)) (decl dip m n : Int) (w : World) (h : RdRow w A l.length 2 (elP l)) (hn : l.length ≤ 100000) :
    Calls Tryz.prog 29 #[.agg #[.string s, I pos, .slice A l.length c, I decl], I dip, I m, I n, .bool false] w fun e w' => e = .returned (.tuple #[.agg #[I (cutM s pos l decl dip m n).1, I (cutM s pos l decl dip m n).2.1], I (cutM s pos l decl dip m n).2.2]) ∧ Below w.heap.size w w' := by
  refine enterSay [] [.agg [.k (.string s), .k (I pos), .k (.slice A l.length c), .k (I decl)], .c (.k (I dip)), .c (.k (I m)), .c (.k (I n)), .c (.k (.bool false))] [(801, .say (sb (.slice A l.length c)) (fun w => RdRow w A l.length 2 (elP l)))] Tryz.func29 rfl 87 Tryz.ntmps29 rfl rfl ⟨⟨trivial, trivial, trivial, trivial, trivial⟩, trivial, trivial, trivial, trivial, trivial⟩ ⟨⟨h, sb_lt h, steady_row⟩, trivial, trivial⟩ ?_
  refine G.seqR tfine rfl trivial ?_
  refine G.seq ?_
  refine G.seqC tfine rfl trivial ?_
  refine GO.callPlain (v := I (lying_lies s pos l decl)) rfl rfl rfl rfl (fun args w => Tryz.call54 args w) (fun ρ w hs hok => lying_lies_any s pos A c l decl w (hs.ok 801 _ rfl).1 hn) ?_
  refine GO.fin tfine rfl trivial ?_
  refine G.seqR tfine rfl trivial ?_
  refine G.cond (b := lying_lies s pos l decl != 0) rfl (fun h1 => ?_) (fun h1 => ?_)
  · refine G.seqR tfine rfl trivial ?_
    refine G.ret (retK.plain tfine rfl ?_)
    rw [cutM, if_pos h1]
  refine G.skip ?_
  refine G.seqC tfine rfl trivial ?_
  refine GO.callPlain (v := .tuple #[I (depthM s pos l decl).1, I (depthM s pos l decl).2]) rfl rfl rfl rfl (fun args w => Tryz.call7 args w) (fun ρ w hs hok => depth_any s pos A c l decl w (hs.ok 801 _ rfl).1 hn) ?_
  refine GO.fin tfine rfl trivial ?_
  obtain ⟨dp, hdp⟩ : ∃ dp, dp = (depthM s pos l decl).1 := ⟨_, rfl⟩
  rw [← hdp]
  refine G.seq ?_
  refine G.seqC tfine rfl ?_ ?_
  · first | trivial | (simp [AllP, condB]; done) | (simp only [AllP]; and_intros <;> first | trivial | decide | omega) | (simp [AllP, condB]; intros; and_intros <;> first | assumption | omega) | (simp [AllP, condB]; intros; simp_all; done)
  refine GO.callGuard (.bool (lying_strips m)) rfl rfl rfl (by first | exact trivial | exact ⟨id, trivial⟩ | exact ⟨id, id, trivial⟩ | exact ⟨id, id, id, trivial⟩ | exact ⟨id, id, id, id, trivial⟩) rfl rfl (fun args w => Tryz.call55 args w) rfl (fun _ m' hle ρ w hs hok => lying_strips_any m w) ?_
  refine GO.more tfine rfl ?_ ?_
  · first | trivial | (simp [AllP, condB]; done) | (simp only [AllP]; and_intros <;> first | trivial | decide | omega) | (simp [AllP, condB]; intros; and_intros <;> first | assumption | omega) | (simp [AllP, condB]; intros; simp_all; done)
  refine GO.callGuard (.bool (lying_strips n)) rfl rfl rfl (by first | exact trivial | exact ⟨id, trivial⟩ | exact ⟨id, id, trivial⟩ | exact ⟨id, id, id, trivial⟩ | exact ⟨id, id, id, id, trivial⟩) rfl rfl (fun args w => Tryz.call55 args w) rfl (fun _ m' hle ρ w hs hok => lying_strips_any n w) ?_
  refine GO.fin tfine rfl ?_ ?_
  · first | trivial | (simp [AllP, condB]; done) | (simp only [AllP]; and_intros <;> first | trivial | decide | omega) | (simp [AllP, condB]; intros; and_intros <;> first | assumption | omega) | (simp [AllP, condB]; intros; simp_all; done)
  refine G.cond (b := ((decide (dip < 0) || decide (dip > dp)) || !(lying_strips m)) || !(lying_strips n)) rfl (fun h2 => ?_) (fun h2 => ?_)
  · refine G.seqR tfine rfl trivial ?_
    refine G.ret (retK.plain tfine rfl ?_)
    rw [cutM, if_neg (fne h1), ← hdp, if_pos h2]
  have hnn : 1 ≤ n ∧ n ≤ 64 := by
    simp only [Bool.or_eq_false_iff, Bool.not_eq_false'] at h2
    have := h2.2
    unfold lying_strips at this
    simp only [Bool.and_eq_true, decide_eq_true_eq] at this
    omega
  refine G.skip ?_
  refine G.seqC tfine rfl trivial ?_
  obtain ⟨p, hp⟩ : ∃ p, p = (slicesM l m).1 := ⟨_, rfl⟩
  obtain ⟨pe, hpe⟩ : ∃ pe, pe = (slicesM l m).2 := ⟨_, rfl⟩
  refine GO.callSay 812 (fun u : Option Addr × Nat => .tuple #[.slice u.1 p.length u.2, I pe]) (fun u => sb (.slice u.1 p.length u.2)) (fun u w => RdRow w u.1 p.length 1 (elI p)) rfl rfl rfl rfl rfl (fun args w => Tryz.call56 args w) (fun ρ w hs hok => ?_) fun u => ?_
  · have := slices_any A c l m w (hs.ok 801 _ rfl).1 hn
    rw [hp, hpe]
    exact this
  refine GO.fin tfine rfl trivial ?_
  refine G.seq ?_
  refine G.seqR tfine rfl trivial ?_
  refine G.cond (b := pe != 0) rfl (fun h3 => ?_) (fun h3 => ?_)
  · refine G.seqR tfine rfl trivial ?_
    refine G.ret (retK.plain tfine rfl ?_)
    rw [cutM, if_neg (fne h1), ← hdp, if_neg (fne h2), ← hpe, if_pos h3]
  have hpl : p.length ≤ 65 := by rw [hp]; exact slicesM_len l m
  refine G.skip ?_
  refine G.seqR tfine rfl trivial ?_
  refine G.seq ?_
  refine G.seqR tfine rfl trivial ?_
  refine G.cond_false rfl ?_
  refine G.skip ?_
  refine G.seqR tfine rfl trivial ?_
  refine G.seq (G.seqR tfine rfl trivial ?_)
  have hw1 : IntKind.i64.wrap (n + 1) = ((n.toNat + 1 : Nat) : Int) := by rw [show ((n.toNat + 1 : Nat) : Int) = n + 1 by omega]; exact IntWalk.i64_in _ (by omega)
  rw [hw1]
  refine G.newNil 81 1 (elI []) rfl ?_
  refine G.block (G.loop (fun z : Nat × Nat => St.of [(3, .v (.c (.k (I n)))), (5, .v (.c (.ptr 5 0 0 0))), (10, .v (.c (.ptr 10 0 0 0))), (15, .v (.c (.k (.slice u.1 p.length u.2)))), (17, .v (.c (.k (I 0)))), (18, .v (.c (.k (I dip)))), (19, .v (.c (accV 81 1 z.1 z.2))), (68, .v (.c (.k (I (n.toNat + 1 : Nat))))), (69, .v (.c (.k (I z.1))))]
      [(801, .say (sb (.slice A l.length c)) (fun w => RdRow w A l.length 2 (elP l))), (812, .say (sb (.slice u.1 p.length u.2)) (fun w => RdRow w u.1 p.length 1 (elI p))), (5, .var 24 [.k (.string s), .k (I pos), .k (.slice A l.length c), .k (I decl)]), (10, .var 33 [.k (I 0), .k (I 0)]), (81, accB 3 1 z.1 z.2 (elI (hsM dip n z.1)))])
    (fun z => z.1 ≤ n.toNat + 1 ∧ z.1 ≤ z.2) (fun z => n.toNat + 1 - z.1) (0, 0) ⟨Nat.zero_le _, Nat.le_refl _⟩ (St.le_of rfl ⟨⟨_, rfl, Blk.le_refl _⟩, ⟨_, rfl, Blk.le_refl _⟩, ⟨_, rfl, Blk.le_refl _⟩, ⟨_, rfl, Blk.le_refl _⟩, ⟨_, rfl, Blk.le_refl _⟩, trivial⟩ ⟨rfl, rfl, rfl, rfl, rfl, rfl, rfl, rfl, rfl, trivial⟩) ?_)
  rintro ⟨k, cp⟩ ⟨hk, hcp⟩
  simp only at hk hcp
  refine G.seqR tfine rfl trivial ?_
  refine G.seq (G.cond (b := decide ((k : Int) < ((n.toNat + 1 : Nat) : Int))) rfl (fun h4 => ?_) (fun h4 => ?_))
  rotate_left
  · have h4 := of_decide_eq_false h4
    have hkn : k = n.toNat + 1 := by omega
    subst hkn
    refine G.exit ?_
    refine G.freezeArr 81 19 rfl rfl (Nat.le_refl _) fun g hg => ?_
    refine G.seqC tfine rfl trivial ?_
    refine GO.callPlain (v := .agg #[I (betM l p (hsM dip n (n.toNat + 1)) dp).1, I (betM l p (hsM dip n (n.toNat + 1)) dp).2]) rfl rfl rfl rfl (fun args w => Tryz.call57 args w) (fun ρ w hs hok => ?_) ?_
    · have h5 := (hs.ok 81 _ rfl).1
      have e5 := hsM_len dip n (n.toNat + 1)
      have := between_lying_any s pos A c l decl u.1 u.2 p (some ⟨g, 0, none⟩) cp (hsM dip n (n.toNat + 1)) w (hs.ok 801 _ rfl).1 (hs.ok 812 _ rfl).1 (by rw [e5]; exact h5) hn (by omega) (by omega)
      rw [hdp]
      rw [e5] at this
      exact this
    refine GO.fin tfine rfl trivial ?_
    refine G.ret (retK.plain tfine rfl ?_)
    rw [cutM, if_neg (fne h1), ← hdp, if_neg (fne h2), ← hpe, if_neg (fne h3), ← hp]
  have h4 := of_decide_eq_true h4
  have hlt : k < n.toNat + 1 := by omega
  have hn0 : n ≠ 0 := by omega
  refine G.skip ?_
  refine G.seq (G.block ?_)
  refine G.seqR tfine rfl trivial ?_
  refine G.region_lit ?_
  refine GO.moveAny tfine rfl (.inl rfl) rfl rfl rfl ?_
  refine GO.more tfine rfl ⟨hn0, trivial⟩ ?_
  refine GO.appendAccB (n := k) (c := cp) (el := elI (hsM dip n k)) [I (hgt dip n k)] [(3, .v (.c (.k (I n)))), (5, .v (.c (.ptr 5 0 0 0))), (10, .v (.c (.ptr 10 0 0 0))), (15, .v (.c (.k (.slice u.1 p.length u.2)))), (17, .v (.c (.k (I 0)))), (18, .v (.c (.k (I dip)))), (68, .v (.c (.k (I (n.toNat + 1 : Nat))))), (69, .v (.c (.k (I k))))]
      [(801, .say (sb (.slice A l.length c)) (fun w => RdRow w A l.length 2 (elP l))), (812, .say (sb (.slice u.1 p.length u.2)) (fun w => RdRow w u.1 p.length 1 (elI p))), (5, .var 24 [.k (.string s), .k (I pos), .k (.slice A l.length c), .k (I decl)]), (10, .var 33 [.k (I 0), .k (I 0)])] apT35 rfl rfl rfl rfl rfl rfl rfl rfl rfl rfl (fun u hu => by simp at hu; subst hu; rfl)
    (St.le_of rfl ⟨⟨_, rfl, Blk.le_refl _⟩, ⟨_, rfl, Blk.le_refl _⟩, ⟨_, rfl, Blk.le_refl _⟩, ⟨_, rfl, Blk.le_refl _⟩, trivial⟩ ⟨rfl, rfl, rfl, rfl, rfl, rfl, rfl, rfl, trivial⟩) (fun z b h => ?_) (fun k hk => rfl) (by unfold maxLen; omega) (by omega) fun c' hc' => ?_
  · rcases lkM_mem (ml := [(801, .say (sb (.slice A l.length c)) (fun w => RdRow w A l.length 2 (elP l))), (812, .say (sb (.slice u.1 p.length u.2)) (fun w => RdRow w u.1 p.length 1 (elI p))), (5, .var 24 [.k (.string s), .k (I pos), .k (.slice A l.length c), .k (I decl)]), (10, .var 33 [.k (I 0), .k (I 0)])]) (j := z) with h6 | ⟨q, hq, rfl, h6⟩
    · have h : lkM _ z = some b := h
      rw [h6] at h; cases h
    · have h : lkM _ q.1 = some b := h
      simp at hq
      rcases hq with rfl | rfl | rfl | rfl
      · exact ⟨h, (by decide : (801 : Nat) ≠ 81)⟩
      · exact ⟨h, (by decide : (812 : Nat) ≠ 81)⟩
      · exact ⟨h, (by decide : (5 : Nat) ≠ 81)⟩
      · exact ⟨h, (by decide : (10 : Nat) ≠ 81)⟩
  refine GO.fin tfine rfl trivial ?_
  refine G.reg tfine rfl trivial ?_
  rw [IntWalk.i64_in ((k : Int) + 1) (by omega)]
  refine ⟨(k + 1, c'), ⟨by simp only; omega, by simp only; exact hc'⟩, (by show n.toNat + 1 - (k + 1) < n.toNat + 1 - k; omega), ?_⟩
  have hsn : ∀ j, j < k + 1 → elI (hsM dip n (k + 1)) j = elN (elI (hsM dip n k)) k [I (hgt dip n k)] j := fun j hj => by
    have := elI_snoc (hsM dip n k) (hgt dip n k) j (by rw [hsM_len]; exact hj)
    rw [hsM_len] at this
    rw [hsM_succ, this]
  exact St.le_of rfl ⟨⟨_, rfl, Blk.le_refl _⟩, ⟨_, rfl, Blk.le_refl _⟩, ⟨_, rfl, Blk.le_refl _⟩, ⟨_, rfl, Blk.le_refl _⟩, ⟨_, rfl, rfl, rfl, Nat.le_refl _, hsn, Nat.le_refl _⟩, trivial⟩ ⟨rfl, rfl, rfl, rfl, rfl, rfl, rfl, rfl, by simp [up, I], trivial⟩
theorem lying_Wet_any (s : ByteArray) (pos : Int) (A : Option Addr) (c : Nat) (l : List (Int × Int)) (decl dip m n : Int) (w : World) (h : RdRow w A l.length 2 (elP l)) (hn : l.length ≤ 100000) :
    Calls Tryz.prog 12 #[.agg #[.string s, I pos, .slice A l.length c, I decl], I dip, I m, I n] w fun e w' => e = .returned (.tuple #[.agg #[I (cutM s pos l decl dip m n).1, I (cutM s pos l decl dip m n).2.1], I (cutM s pos l decl dip m n).2.2]) ∧ Below w.heap.size w w' := by
  refine enterSay [] [.agg [.k (.string s), .k (I pos), .k (.slice A l.length c), .k (I decl)], .c (.k (I dip)), .c (.k (I m)), .c (.k (I n))] [(801, .say (sb (.slice A l.length c)) (fun w => RdRow w A l.length 2 (elP l)))] Tryz.func12 rfl 17 Tryz.ntmps12 rfl rfl ⟨⟨trivial, trivial, trivial, trivial, trivial⟩, trivial, trivial, trivial, trivial⟩ ⟨⟨h, sb_lt h, steady_row⟩, trivial, trivial⟩ ?_
  refine G.seqR tfine rfl trivial ?_
  refine G.seqC tfine rfl trivial ?_
  refine GO.callPlain (v := .tuple #[.agg #[I (cutM s pos l decl dip m n).1, I (cutM s pos l decl dip m n).2.1], I (cutM s pos l decl dip m n).2.2]) rfl rfl rfl rfl (fun args w => Tryz.call29 args w) (fun ρ w hs hok => cut_any s pos A c l decl dip m n w (hs.ok 801 _ rfl).1 hn) ?_
  refine GO.fin tfine rfl trivial ?_
  exact G.ret (retK.plain tfine rfl rfl)
end Go.Proofs.YtphipfmidfoflaaGreat
