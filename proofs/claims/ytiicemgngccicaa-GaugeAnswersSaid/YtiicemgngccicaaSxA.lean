/- The symbolic executor, part A: abstract values, states, what a state says of the machine's frame and memory; how it is carried over events. No program in sight: generic over P. -/
import Derived.WalkKit
import Derived.RowKit3
import Derived.Below
set_option linter.unusedVariables false
set_option linter.unusedSimpArgs false
namespace Go.Sx
open Go.RowKit

/-- What a function literal has captured: a pointer into a block of ours, or a value. -/
inductive Cap where
  | own (x off : Nat)
  | val (v : Value)
/-- What one cell, or a value of one cell, is known to hold: a value; a pointer into block x (element i of sz cells, off cells behind its head); a slice over a block of ours; a slice that came in, over the read-only block x; a function literal. -/
inductive AC where
  | k (v : Value)
  | ptr (x i sz off : Nat)
  | slc (x i sz len cap : Nat)
  | inp (x : Nat) (A : Option Addr) (len cap : Nat)
  | fn (f : FuncId) (caps : List Cap)
inductive AV where
  | c (a : AC)
  | agg (l : List AC)
inductive TV where
  | unk
  | v (a : AV)
  | tup (l : List AV)
  | grd (j : Nat) (want b : Bool) (a : AV)
/-- A block of memory: a variable (its cells, each known); a row or array of n elements of sz cells, which are plain values (room: how many cells more it has at the least); a row that came in and is only read. -/
inductive Blk where
  | var (ty : TypeId) (cells : List AC)
  | arr (ty : TypeId) (sz n : Nat) (el : Nat → List Value) (room : Nat)
  | ro (sz n : Nat) (el : Nat → List Value)
def Blk.own : Blk → Prop
  | .ro .. => False
  | _ => True

/-- A block of which something is said. -/
def Blk.live : Blk → Prop
  | .ro _ n _ => 0 < n
  | _ => True

structure St where
  t : Nat → TV
  m : Nat → Option Blk

def up {α : Type} (f : Nat → α) (d : Nat) (v : α) : Nat → α := fun j => bif Nat.beq j d then v else f j
theorem up_same {α : Type} (f : Nat → α) (d : Nat) (v : α) : up f d v d = v := by simp [up]
theorem up_other {α : Type} (f : Nat → α) {d j : Nat} (v : α) (h : j ≠ d) : up f d v j = f j := by
  have : Nat.beq j d = false := by
    cases hb : Nat.beq j d with
    | false => rfl
    | true => exact absurd (Nat.eq_of_beq_eq_true hb) h
  simp [up, this]

abbrev Val := Nat → Nat × Nat

def Cap.conc (ρ : Val) : Cap → Value
  | .own x off => .pointer (some ⟨(ρ x).1, (ρ x).2 + off, none⟩)
  | .val v => v
def AC.conc (ρ : Val) : AC → Value
  | .k v => v
  | .ptr x i sz off => .pointer (some ⟨(ρ x).1, (ρ x).2 + (i * sz + off), none⟩)
  | .slc x i sz len cap => .slice (some ⟨(ρ x).1, (ρ x).2 + i * sz, none⟩) len cap
  | .inp _ A len cap => .slice A len cap
  | .fn f caps => .func (.func f) #[] (caps.map (Cap.conc ρ)).toArray
def AV.conc (ρ : Val) : AV → Value
  | .c a => a.conc ρ
  | .agg l => .agg (l.map (AC.conc ρ)).toArray

def Cap.ok (m : Nat → Option Blk) : Cap → Prop
  | .own x _ => (m x).isSome = true
  | .val _ => True
def AC.ok (ρ : Val) (m : Nat → Option Blk) : AC → Prop
  | .k _ => True
  | .ptr x .. => (m x).isSome = true
  | .slc x .. => (m x).isSome = true
  | .inp x A len _ => (m x).isSome = true ∧ (0 < len → A = some ⟨(ρ x).1, (ρ x).2, none⟩)
  | .fn _ caps => ∀ c ∈ caps, c.ok m
def AV.ok (ρ : Val) (m : Nat → Option Blk) : AV → Prop
  | .c a => a.ok ρ m
  | .agg l => ∀ a ∈ l, a.ok ρ m
def TV.rep (ρ : Val) (m : Nat → Option Blk) : TV → Value → Prop
  | .unk, _ => True
  | .v a, x => a.ok ρ m ∧ x = a.conc ρ
  | .tup l, x => (∀ a ∈ l, a.ok ρ m) ∧ x = .tuple (l.map (AV.conc ρ)).toArray
  | .grd _ _ b a, x => (b = true → a.ok ρ m ∧ x = a.conc ρ) ∧ (b = false → x = undef)

/-- Of what was there at the entry only the blocks bs may have turned. -/
structure Fr (w0 : World) (bs : List Nat) (w : World) : Prop where
  os : w.os = w0.os
  tape : w.tape = w0.tape
  output : w.output = w0.output
  size : w0.heap.size ≤ w.heap.size
  block : ∀ k, k < w0.heap.size → k ∉ bs → w.heap[k]? = w0.heap[k]?
theorem Fr.refl (w0 : World) (bs : List Nat) : Fr w0 bs w0 := ⟨rfl, rfl, rfl, Nat.le_refl _, fun _ _ _ => rfl⟩
theorem Fr.below {w0 w w' : World} {bs : List Nat} (h : Fr w0 bs w) (hb : Below w.heap.size w w') : Fr w0 bs w' :=
  ⟨hb.os.trans h.os, hb.tape.trans h.tape, hb.output.trans h.output, Nat.le_trans h.size hb.size,
    fun k hk hn => (hb.block k (Nat.lt_of_lt_of_le hk h.size)).trans (h.block k hk hn)⟩
theorem Fr.toBelow {w0 w : World} (h : Fr w0 [] w) : Below w0.heap.size w0 w := ⟨h.os, h.tape, h.output, h.size, fun k hk => h.block k hk (by simp)⟩
theorem Fr.of_below {w0 w : World} (h : Below w0.heap.size w0 w) : Fr w0 [] w := ⟨h.os, h.tape, h.output, h.size, fun k hk _ => h.block k hk⟩
theorem Fr.set {w0 w : World} {bs : List Nat} (h : Fr w0 bs w) {p : Addr} (hp : w0.heap.size ≤ p.block ∨ p.block ∈ bs) (u : Value) : Fr w0 bs (w.setCell p u) :=
  ⟨h.os, h.tape, h.output, by simpa [World.setCell] using h.size, fun k hk hn => by
    refine (Below.heap_setCell w p u k ?_).trans (h.block k hk hn)
    rintro rfl
    rcases hp with hp | hp
    · omega
    · exact hn hp⟩

structure Env where
  w0 : World
  bor : List (Nat × Nat)
  N : Nat

def BlkOK (E : Env) (ρ : Val) (m : Nat → Option Blk) (w : World) (x : Nat) : Blk → Prop
  | .var ty cells => (ρ x).2 = 0 ∧ (E.w0.heap.size ≤ (ρ x).1 ∨ (x, (ρ x).1) ∈ E.bor) ∧
      w.heap[(ρ x).1]? = some (.cells (cells.map (AC.conc ρ)).toArray ty (0, 0)) ∧ ∀ c ∈ cells, c.ok ρ m
  | .arr ty sz n el room => (ρ x).2 = 0 ∧ (E.w0.heap.size ≤ (ρ x).1 ∨ (x, (ρ x).1) ∈ E.bor) ∧
      ∃ a : Array Value, w.heap[(ρ x).1]? = some (.cells a ty (0, 0)) ∧ n * sz + room ≤ a.size ∧
        ∀ i, i < n → (el i).length = sz ∧ ∀ j, j < sz → a[i * sz + j]? = (el i)[j]?
  | .ro sz n el => 0 < n → (ρ x).1 < w.heap.size ∧
      ∀ i, i < n → (el i).length = sz ∧ ∀ j, j < sz → w.cell? ⟨(ρ x).1, (ρ x).2 + (i * sz + j), none⟩ = (el i)[j]?

structure SatM (E : Env) (ρ : Val) (m : Nat → Option Blk) (w : World) : Prop where
  fr : Fr E.w0 (E.bor.map (·.2)) w
  bo : ∀ p ∈ E.bor, ρ p.1 = (p.2, 0) ∧ 1000 ≤ p.1
  ok : ∀ x b, m x = some b → BlkOK E ρ m w x b
  ne : ∀ x y b c, m x = some b → m y = some c → b.own → c.live → x ≠ y → (ρ x).1 ≠ (ρ y).1

structure Sat (E : Env) (ρ : Val) (st : St) (a : Act) (w : World) : Prop where
  mem : SatM E ρ st.m w
  df : a.defers = []
  sz : a.tmps.size = E.N
  tm : ∀ j, (st.t j).rep ρ st.m (a.tmps.getD j undef)

/-! ### Lookups of names are stable -/
theorem Cap.ok_mono {m m' : Nat → Option Blk} (h : ∀ x, (m x).isSome = true → (m' x).isSome = true) {c : Cap} (hc : c.ok m) : c.ok m' := by
  cases c with
  | own x off => exact h x hc
  | val v => trivial
theorem AC.ok_mono {ρ ρ' : Val} {m m' : Nat → Option Blk} (h : ∀ x, (m x).isSome = true → (m' x).isSome = true) (hρ : ∀ x, (m x).isSome = true → ρ' x = ρ x) {c : AC} (hc : c.ok ρ m) : c.ok ρ' m' := by
  cases c with
  | k v => trivial
  | ptr x i sz off => exact h x hc
  | slc x i sz len cap => exact h x hc
  | inp x A len cap => exact ⟨h x hc.1, fun hl => by rw [hρ x hc.1]; exact hc.2 hl⟩
  | fn f caps => exact fun c hm => Cap.ok_mono h (hc c hm)
theorem AV.ok_mono {ρ ρ' : Val} {m m' : Nat → Option Blk} (h : ∀ x, (m x).isSome = true → (m' x).isSome = true) (hρ : ∀ x, (m x).isSome = true → ρ' x = ρ x) {c : AV} (hc : c.ok ρ m) : c.ok ρ' m' := by
  cases c with
  | c a => exact AC.ok_mono h hρ hc
  | agg l => exact fun a ha => AC.ok_mono h hρ (hc a ha)
theorem Cap.conc_mono {ρ ρ' : Val} {m : Nat → Option Blk} (hρ : ∀ x, (m x).isSome = true → ρ' x = ρ x) {c : Cap} (hc : c.ok m) : c.conc ρ' = c.conc ρ := by
  cases c with
  | own x off => simp [Cap.conc, hρ x hc]
  | val v => rfl
theorem AC.conc_mono {ρ ρ' : Val} {m : Nat → Option Blk} (hρ : ∀ x, (m x).isSome = true → ρ' x = ρ x) {c : AC} (hc : c.ok ρ m) : c.conc ρ' = c.conc ρ := by
  cases c with
  | k v => rfl
  | ptr x i sz off => simp [AC.conc, hρ x hc]
  | slc x i sz len cap => simp [AC.conc, hρ x hc]
  | inp x A len cap => rfl
  | fn f caps =>
    have : caps.map (Cap.conc ρ') = caps.map (Cap.conc ρ) := List.map_congr_left fun c hm => Cap.conc_mono hρ (hc c hm)
    simp [AC.conc, this]
theorem AV.conc_mono {ρ ρ' : Val} {m : Nat → Option Blk} (hρ : ∀ x, (m x).isSome = true → ρ' x = ρ x) {c : AV} (hc : c.ok ρ m) : c.conc ρ' = c.conc ρ := by
  cases c with
  | c a => exact AC.conc_mono hρ hc
  | agg l =>
    have : l.map (AC.conc ρ') = l.map (AC.conc ρ) := List.map_congr_left fun c hm => AC.conc_mono hρ (hc c hm)
    simp [AV.conc, this]
theorem TV.rep_mono {ρ ρ' : Val} {m m' : Nat → Option Blk} (h : ∀ x, (m x).isSome = true → (m' x).isSome = true) (hρ : ∀ x, (m x).isSome = true → ρ' x = ρ x) {t : TV} {x : Value} (hr : t.rep ρ m x) : t.rep ρ' m' x := by
  cases t with
  | unk => trivial
  | v a => exact ⟨AV.ok_mono h hρ hr.1, by rw [hr.2, AV.conc_mono hρ hr.1]⟩
  | tup l =>
    refine ⟨fun a ha => AV.ok_mono h hρ (hr.1 a ha), ?_⟩
    have : l.map (AV.conc ρ') = l.map (AV.conc ρ) := List.map_congr_left fun c hm => AV.conc_mono hρ (hr.1 c hm)
    rw [hr.2, this]
  | grd j wt b a => exact ⟨fun hb => ⟨AV.ok_mono h hρ (hr.1 hb).1, by rw [(hr.1 hb).2, AV.conc_mono hρ (hr.1 hb).1]⟩, hr.2⟩

/-! ### Events -/
theorem cell_of_heap {w : World} {g : Nat} {cs : Array Value} {t : TypeId} {fr : Nat × Nat} (h : w.heap[g]? = some (.cells cs t fr)) (i : Nat) : w.cell? ⟨g, i, none⟩ = cs[i]? := by
  simp [World.cell?, h]
theorem frozen_of_heap {w : World} {g : Nat} {cs : Array Value} {t : TypeId} (h : w.heap[g]? = some (.cells cs t (0, 0))) (i : Nat) : w.frozen? ⟨g, i, none⟩ = false := by
  simp [World.frozen?, h]
theorem lt_of_heap {w : World} {g : Nat} {o : Obj} (h : w.heap[g]? = some o) : g < w.heap.size := (Array.getElem?_eq_some_iff.1 h).1

/-- Where an own block lies, it is there. -/
theorem SatM.lt {E : Env} {ρ : Val} {m : Nat → Option Blk} {w : World} (h : SatM E ρ m w) {x : Nat} {b : Blk} (hx : m x = some b) (ho : b.own) : (ρ x).1 < w.heap.size := by
  have := h.ok x b hx
  cases b with
  | var ty cells => exact lt_of_heap this.2.2.1
  | arr ty sz n el room => obtain ⟨_, _, a, ha, _⟩ := this; exact lt_of_heap ha
  | ro sz n el => exact ho.elim

theorem Blk.own_live {b : Blk} (h : b.own) : b.live := by cases b <;> first | trivial | exact h.elim
/-- Where a block of which something is said lies, it is there. -/
theorem SatM.lt' {E : Env} {ρ : Val} {m : Nat → Option Blk} {w : World} (h : SatM E ρ m w) {x : Nat} {b : Blk} (hx : m x = some b) (ho : b.live) : (ρ x).1 < w.heap.size := by
  cases b with
  | ro sz n el => exact (h.ok x _ hx ho).1
  | var ty cells => exact h.lt hx trivial
  | arr ty sz n el room => exact h.lt hx trivial

theorem SatM.below {E : Env} {ρ : Val} {m : Nat → Option Blk} {w w' : World} (h : SatM E ρ m w) (hb : Below w.heap.size w w') : SatM E ρ m w' := by
  refine ⟨h.fr.below hb, h.bo, fun x b hx => ?_, h.ne⟩
  have hk := h.ok x b hx
  cases b with
  | var ty cells => exact ⟨hk.1, hk.2.1, (hb.block _ (lt_of_heap hk.2.2.1)).trans hk.2.2.1, hk.2.2.2⟩
  | arr ty sz n el room =>
    obtain ⟨h1, h2, a, ha, hs, he⟩ := hk
    exact ⟨h1, h2, a, (hb.block _ (lt_of_heap ha)).trans ha, hs, he⟩
  | ro sz n el =>
    intro hn
    obtain ⟨h1, h2⟩ := hk hn
    exact ⟨Nat.lt_of_lt_of_le h1 hb.size, fun i hi => ⟨(h2 i hi).1, fun j hj => (hb.cell h1).trans ((h2 i hi).2 j hj)⟩⟩

/-- A block that has nothing to do with name x stays what it is where the world changes at x's block alone. -/
theorem BlkOK.far {E : Env} {ρ : Val} {m m' : Nat → Option Blk} {w w' : World} {y : Nat} {b : Blk} (h : BlkOK E ρ m w y b)
    (hm : ∀ x, (m x).isSome = true → (m' x).isSome = true) (hs : w.heap.size ≤ w'.heap.size) (hw : b.live → w'.heap[(ρ y).1]? = w.heap[(ρ y).1]?) : BlkOK E ρ m' w' y b := by
  cases b with
  | var ty cells => exact ⟨h.1, h.2.1, (hw trivial).trans h.2.2.1, fun c hc => AC.ok_mono hm (fun _ _ => rfl) (h.2.2.2 c hc)⟩
  | arr ty sz n el room =>
    obtain ⟨h1, h2, a, ha, hs, he⟩ := h
    exact ⟨h1, h2, a, (hw trivial).trans ha, hs, he⟩
  | ro sz n el =>
    intro hn
    obtain ⟨h1, h2⟩ := h hn
    exact ⟨Nat.lt_of_lt_of_le h1 hs, fun i hi => ⟨(h2 i hi).1, fun j hj => (World.cell?_of_block (w := w) (hw hn)).trans ((h2 i hi).2 j hj)⟩⟩

theorem isSome_up {m : Nat → Option Blk} {x : Nat} {b : Blk} (y : Nat) (h : (m y).isSome = true) : (up m x (some b) y).isSome = true := by
  by_cases e : y = x
  · subst e; simp [up_same]
  · rw [up_other _ _ e]; exact h

/-- Block x takes a new content. -/
theorem SatM.put {E : Env} {ρ : Val} {m : Nat → Option Blk} {w w' : World} (h : SatM E ρ m w) {x : Nat} {b b' : Blk} (hx : m x = some b) (ho : b.own) (ho' : b'.own)
    (hfr : Fr E.w0 (E.bor.map (·.2)) w') (hsz : w.heap.size ≤ w'.heap.size) (hw : ∀ g, g ≠ (ρ x).1 → w'.heap[g]? = w.heap[g]?) (hb : BlkOK E ρ (up m x (some b')) w' x b') : SatM E ρ (up m x (some b')) w' := by
  refine ⟨hfr, h.bo, fun y c hy => ?_, fun y z c d hy hz hc hd hne => ?_⟩
  · by_cases e : y = x
    · subst e
      rw [up_same] at hy
      injection hy with hy
      subst hy
      exact hb
    · rw [up_other _ _ e] at hy
      exact (h.ok y c hy).far (fun z hz => isSome_up z hz) hsz (fun hc => hw _ (h.ne x y b c hx hy ho hc (Ne.symm e)).symm)
  · by_cases e1 : y = x
    · by_cases e2 : z = x
      · exact absurd (e1.trans e2.symm) hne
      · rw [up_other _ _ e2] at hz
        subst e1
        exact h.ne _ z b d hx hz ho hd hne
    · rw [up_other _ _ e1] at hy
      by_cases e2 : z = x
      · subst e2
        exact h.ne y _ c b hy hx hc (Blk.own_live ho) hne
      · rw [up_other _ _ e2] at hz
        exact h.ne y z c d hy hz hc hd hne

/-- A new block under a name that is free. -/
theorem SatM.alloc {E : Env} {ρ : Val} {m : Nat → Option Blk} {w : World} (h : SatM E ρ m w) {x : Nat} (hx : m x = none) (hxb : x < 1000) (b : Blk) (o : Obj)
    (hb : ∀ ρ' : Val, (∀ y, y ≠ x → ρ' y = ρ y) → ρ' x = (w.heap.size, 0) → BlkOK E ρ' (up m x (some b)) (w.alloc o) x b) :
    SatM E (up ρ x (w.heap.size, 0)) (up m x (some b)) (w.alloc o) := by
  have hρ : ∀ y, (m y).isSome = true → up ρ x (w.heap.size, 0) y = ρ y := fun y hy => up_other _ _ (fun e => by subst e; simp [hx] at hy)
  refine ⟨h.fr.below ((Below.refl _ _).alloc (Nat.le_refl _) _), fun p hp => ?_, fun y c hy => ?_, fun y z c d hy hz hc hd hne => ?_⟩
  · have := h.bo p hp
    rw [up_other _ _ (by omega)]; exact this
  · by_cases e : y = x
    · subst e
      rw [up_same] at hy
      injection hy with hy
      subst hy
      exact hb _ (fun z hz => up_other _ _ hz) (up_same _ _ _)
    · rw [up_other _ _ e] at hy
      have hk := h.ok y c hy
      have ey : up ρ x (w.heap.size, 0) y = ρ y := up_other _ _ e
      cases c with
      | var ty cells =>
        have hl := lt_of_heap hk.2.2.1
        have hcm : cells.map (AC.conc (up ρ x (w.heap.size, 0))) = cells.map (AC.conc ρ) := List.map_congr_left fun c hm => AC.conc_mono hρ (hk.2.2.2 c hm)
        exact ⟨by rw [ey]; exact hk.1, by rw [ey]; exact hk.2.1, by rw [ey, hcm]; exact (Below.heap_alloc _ _ _ hl).trans hk.2.2.1, fun c hc => AC.ok_mono (fun z hz => isSome_up z hz) hρ (hk.2.2.2 c hc)⟩
      | arr ty sz n el room =>
        obtain ⟨h1, h2, a, ha, hs, he⟩ := hk
        exact ⟨by rw [ey]; exact h1, by rw [ey]; exact h2, a, by rw [ey]; exact (Below.heap_alloc _ _ _ (lt_of_heap ha)).trans ha, hs, he⟩
      | ro sz n el =>
        intro hn
        rw [ey]
        obtain ⟨h1, h2⟩ := hk hn
        have hB : Below w.heap.size w (w.alloc o) := (Below.refl _ _).alloc (Nat.le_refl _) _
        exact ⟨Nat.lt_of_lt_of_le h1 hB.size, fun i hi => ⟨(h2 i hi).1, fun j hj => (hB.cell h1).trans ((h2 i hi).2 j hj)⟩⟩
  · by_cases e1 : y = x
    · by_cases e2 : z = x
      · exact absurd (e1.trans e2.symm) hne
      · rw [up_other _ _ e2] at hz
        have := h.lt' hz hd
        subst e1
        rw [up_same, up_other _ _ e2]
        show w.heap.size ≠ _
        omega
    · rw [up_other _ _ e1] at hy
      by_cases e2 : z = x
      · have := h.lt hy hc
        subst e2
        rw [up_same, up_other _ _ e1]
        show _ ≠ w.heap.size
        omega
      · rw [up_other _ _ e2] at hz
        rw [up_other _ _ e1, up_other _ _ e2]
        exact h.ne y z c d hy hz hc hd hne

/-! ### The frame -/
theorem getD_set {a : Array Value} {d : Nat} (v : Value) (hd : d < a.size) : (a.setIfInBounds d v).getD d undef = v := by
  simp [Array.getD_eq_getD_getElem?, Array.getElem?_setIfInBounds, hd]
theorem getD_set_ne {a : Array Value} {d j : Nat} (v : Value) (h : j ≠ d) : (a.setIfInBounds d v).getD j undef = a.getD j undef := by
  simp [Array.getD_eq_getD_getElem?, Array.getElem?_setIfInBounds_ne (Ne.symm h)]

theorem Sat.put {E : Env} {ρ : Val} {st : St} {a : Act} {w : World} (h : Sat E ρ st a w) {d : Nat} (hd : d < E.N) {tv : TV} {v : Value} (hv : tv.rep ρ st.m v) :
    Sat E ρ { st with t := up st.t d tv } (a.put (some d) v) w := by
  refine ⟨h.mem, h.df, by simp [Act.put, h.sz], fun j => ?_⟩
  by_cases e : j = d
  · subst e
    show (up st.t j tv j).rep ρ st.m _
    rw [up_same]
    show tv.rep ρ st.m ((a.tmps.setIfInBounds j v).getD j undef)
    rw [getD_set v (by rw [h.sz]; exact hd)]
    exact hv
  · show (up st.t d tv j).rep ρ st.m ((a.tmps.setIfInBounds d v).getD j undef)
    rw [up_other _ _ e, getD_set_ne v e]
    exact h.tm j
/-- The memory moves on, the frame stays. -/
theorem Sat.move {E : Env} {ρ ρ' : Val} {st : St} {m' : Nat → Option Blk} {a : Act} {w w' : World} (h : Sat E ρ st a w) (hm : SatM E ρ' m' w')
    (hs : ∀ x, (st.m x).isSome = true → (m' x).isSome = true) (hρ : ∀ x, (st.m x).isSome = true → ρ' x = ρ x) : Sat E ρ' { st with m := m' } a w' :=
  ⟨hm, h.df, h.sz, fun j => TV.rep_mono hs hρ (h.tm j)⟩
theorem Sat.below {E : Env} {ρ : Val} {st : St} {a : Act} {w w' : World} (h : Sat E ρ st a w) (hb : Below w.heap.size w w') : Sat E ρ st a w' :=
  ⟨h.mem.below hb, h.df, h.sz, h.tm⟩
end Go.Sx
