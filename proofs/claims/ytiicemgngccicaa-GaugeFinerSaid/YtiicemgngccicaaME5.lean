/- Chapter 15: a table with one mark less, and the law GaugeFiner. -/
import Derived.Test.YtiicemgngccicaaME4
import Derived.Laws.OwnMore
import Derived.MapKept
/- The symbolic executor, part AD: answers of any shape (plain parts and rows that the call has made), in any order; a whole array's element at an unknown place; appending to a list from nothing on. Generic over P. -/
set_option linter.unusedVariables false
set_option linter.unusedSimpArgs false
namespace Go.Sx
open Go.RowKit
theorem nbeq {i y : Nat} (e : i ≠ y) : Nat.beq i y = false := by
  cases h : Nat.beq i y with
  | false => rfl
  | true => exact absurd (Nat.eq_of_beq_eq_true h) e
theorem nx {a b : Nat} (h : Nat.beq a b = false) : a ≠ b := fun e => by subst e; simp at h
/-! ### Shapes of answers -/
/-- A part of an answer: a plain value, or a row of n elements of sz cells. -/
inductive RC where
  | p (v : Value)
  | r (n sz : Nat) (el : Nat → List Value)
inductive RV where
  | c (a : RC)
  | agg (l : List RC)
def RC.says (w w' : World) : RC → Value → Prop
  | .p v, u => u = v
  | .r n sz el, u => ∃ A c, u = .slice A n c ∧ n ≤ c ∧ (∀ a, A = some a → a.spot = none) ∧ RdNew w w' A n sz el
def saysL (w w' : World) : List RC → List Value → Prop
  | [], [] => True
  | a :: r, u :: s => a.says w w' u ∧ saysL w w' r s
  | _, _ => False
def flatV : List RV → List RC
  | [] => []
  | .c a :: r => a :: flatV r
  | .agg l :: r => l ++ flatV r
def valL : List RV → List Value → List Value
  | .c _ :: r, v :: s => v :: valL r s
  | .agg l :: r, s => .agg (s.take l.length).toArray :: valL r (s.drop l.length)
  | _, _ => []
def tupV : List Value → Value
  | [v] => v
  | l => .tuple l.toArray
/-- The answer has this shape. -/
def Ans (w w' : World) (rvs : List RV) (e : Ending) : Prop := ∃ cs, saysL w w' (flatV rvs) cs ∧ e = .returned (tupV (valL rvs cs))
/-! ### On the caller's side: rows get names -/
def rowM (m : Mem) (x n sz : Nat) (el : Nat → List Value) : Mem := up (up m x (some (.ro sz n el))) (x + 50) (some (.ro 0 0 fun _ => []))
def acL (g : Nat) : List RC → List Nat → List AC
  | .p v :: r, q => .k v :: acL g r q
  | .r n _ _ :: r, x :: q => .row x n g :: acL g r q
  | _, _ => []
def mL (m : Mem) : List RC → List Nat → Mem
  | .p _ :: r, q => mL m r q
  | .r n sz el :: r, x :: q => mL (rowM m x n sz el) r q
  | _, _ => m
def okN (m : Mem) : List RC → List Nat → Prop
  | [], _ => True
  | .p _ :: r, q => okN m r q
  | .r n sz el :: r, x :: q => m x = none ∧ m (x + 50) = none ∧ Nat.blt (x + 50) 1000 = true ∧ okN (rowM m x n sz el) r q
  | .r .. :: _, [] => False
def avL : List RV → List AC → List AV
  | .c _ :: r, a :: s => .c a :: avL r s
  | .agg l :: r, s => .agg (s.take l.length) :: avL r (s.drop l.length)
  | _, _ => []
def tvL : List AV → TV
  | [a] => .v a
  | l => .tup l
theorem avL_conc (ρ : Val) : ∀ (rvs : List RV) (acs : List AC), (avL rvs acs).map (AV.conc ρ) = valL rvs (acs.map (AC.conc ρ))
  | [], _ => rfl
  | .c _ :: r, [] => rfl
  | .c a :: r, b :: s => by
    simp only [avL, List.map_cons, valL, avL_conc ρ r s]
    rfl
  | .agg l :: r, s => by
    simp only [avL, List.map_cons, valL, avL_conc ρ r, List.map_drop, AV.conc, List.map_take]
theorem avL_ok {ρ : Val} {m : Mem} : ∀ (rvs : List RV) (acs : List AC), (∀ a ∈ acs, a.ok ρ m) → ∀ a ∈ avL rvs acs, a.ok ρ m
  | [], _, _ => fun a h => by cases h
  | .c _ :: r, [], _ => fun a h => by cases h
  | .c _ :: r, b :: s, h => fun a ha => by
    cases ha with
    | head => exact h b (.head _)
    | tail _ ha => exact avL_ok r s (fun a ha => h a (.tail _ ha)) a ha
  | .agg l :: r, s, h => fun a ha => by
    cases ha with
    | head => exact fun a ha => h a (List.mem_of_mem_take ha)
    | tail _ ha => exact avL_ok r _ (fun a ha => h a (List.mem_of_mem_drop ha)) a ha
theorem tvL_rep {ρ : Val} {m : Mem} {l : List AV} (h : ∀ a ∈ l, a.ok ρ m) : (tvL l).rep ρ m (tupV (l.map (AV.conc ρ))) := by
  match l, h with
  | [a], h => exact ⟨h a (.head _), rfl⟩
  | [], h => exact ⟨h, rfl⟩
  | a :: b :: r, h => exact ⟨h, rfl⟩
theorem isSome_rowM {m : Mem} {x n sz : Nat} {el : Nat → List Value} (y : Nat) (h : (m y).isSome = true) : (rowM m x n sz el y).isSome = true := isSome_up y (isSome_up y h)
section
variable {P : Program} {E : Env} {K : Exit → St → Prop} {T : Tab}
theorem SatM.addRow {ρ : Val} {m : Mem} {w' : World} {g0 : Nat} (h : SatM E ρ m w') (hlt : ∀ y b, m y = some b → b.own → (ρ y).1 < g0) {x n sz c : Nat} (hx : m x = none) (hx2 : m (x + 50) = none) (hxb : Nat.blt (x + 50) 1000 = true) {A : Option Addr} {el : Nat → List Value}
    (hr : 0 < n → ∃ b o, A = some ⟨b, o, none⟩ ∧ g0 ≤ b ∧ b < w'.heap.size ∧ ∀ i, i < n → (el i).length = sz ∧ ∀ j, j < sz → w'.cell? ⟨b, o + (i * sz + j), none⟩ = (el i)[j]?) (hsp : ∀ a, A = some a → a.spot = none) (hcn : n ≤ c) :
    ∃ ρ' : Val, (∀ y, (m y).isSome = true → ρ' y = ρ y) ∧ SatM E ρ' (rowM m x n sz el) w' ∧ AC.ok ρ' (rowM m x n sz el) (.row x n g0) ∧ AC.conc ρ' (.row x n g0) = .slice A n c ∧ ∀ y b, rowM m x n sz el y = some b → b.own → (ρ' y).1 < g0 := by
  have hxb : x + 50 < 1000 := by simpa [Nat.blt_eq] using hxb
  obtain ⟨p, hp0⟩ : ∃ p : Nat × Nat, p = (A.map fun a => (a.block, a.off)).getD (0, 0) := ⟨_, rfl⟩
  obtain ⟨q, hq0⟩ : ∃ q : Nat × Nat, q = (c, (A.map fun _ => 1).getD 0) := ⟨_, rfl⟩
  obtain ⟨ρ', hρ'⟩ : ∃ ρ' : Val, ρ' = up (up ρ x p) (x + 50) q := ⟨_, rfl⟩
  have e1 : ρ' x = p := by rw [hρ', up_other _ _ (by omega), up_same]
  have e2 : ρ' (x + 50) = q := by rw [hρ', up_same]
  have e3 : ∀ y, y ≠ x → y ≠ x + 50 → ρ' y = ρ y := fun y h1 h2 => by rw [hρ', up_other _ _ h2, up_other _ _ h1]
  have hρ : ∀ y, (m y).isSome = true → ρ' y = ρ y := fun y hy => e3 y (fun e => by subst e; simp [hx] at hy) (fun e => by subst e; simp [hx2] at hy)
  have hm : ∀ y b, rowM m x n sz el y = some b → (y = x + 50 ∧ b = .ro 0 0 fun _ => []) ∨ (y = x ∧ b = .ro sz n el) ∨ (y ≠ x ∧ y ≠ x + 50 ∧ m y = some b) := by
    intro y b hy
    unfold rowM at hy
    by_cases h1 : y = x + 50
    · subst h1
      rw [up_same] at hy
      injection hy with hy
      exact .inl ⟨rfl, hy.symm⟩
    · rw [up_other _ _ h1] at hy
      by_cases h2 : y = x
      · subst h2
        rw [up_same] at hy
        injection hy with hy
        exact .inr (.inl ⟨rfl, hy.symm⟩)
      · rw [up_other _ _ h2] at hy
        exact .inr (.inr ⟨h2, h1, hy⟩)
  have hp : 0 < n → g0 ≤ p.1 ∧ p.1 < w'.heap.size ∧ A = some ⟨p.1, p.2, none⟩ ∧ ∀ i, i < n → (el i).length = sz ∧ ∀ j, j < sz → w'.cell? ⟨p.1, p.2 + (i * sz + j), none⟩ = (el i)[j]? := by
    intro h0
    obtain ⟨b, o, rfl, h1, h2, h3⟩ := hr h0
    subst hp0
    exact ⟨h1, h2, rfl, h3⟩
  have hsome : ∀ y, (m y).isSome = true → (rowM m x n sz el y).isSome = true := fun y hy => isSome_rowM y hy
  refine ⟨ρ', hρ, ⟨h.fr, fun r hr => ?_, fun y b hy => ?_, fun y z b d hy hz hb hd hne => ?_⟩, ⟨?_, ?_, fun h0 => ?_, ?_⟩, ?_, fun y b hy hb => ?_⟩
  · have := h.bo r hr
    rw [e3 _ (by omega) (by omega)]; exact this
  · rcases hm y b hy with ⟨rfl, rfl⟩ | ⟨rfl, rfl⟩ | ⟨h1, h2, h3⟩
    · intro h0; omega
    · intro h0
      obtain ⟨_, h2, _, h3⟩ := hp h0
      rw [e1]
      exact ⟨h2, h3⟩
    · have hk := h.ok y b h3
      have ey : ρ' y = ρ y := e3 y h1 h2
      cases b with
      | var ty cells =>
        have hcm : cells.map (AC.conc ρ') = cells.map (AC.conc ρ) := List.map_congr_left fun c hm => AC.conc_mono hρ (hk.2.2.2 c hm)
        exact ⟨by rw [ey]; exact hk.1, by rw [ey]; exact hk.2.1, by rw [ey, hcm]; exact hk.2.2.1, fun c hc => AC.ok_mono hsome hρ (hk.2.2.2 c hc)⟩
      | arr ty sz n el room =>
        obtain ⟨k1, k2, a, ha, hs, he⟩ := hk
        exact ⟨by rw [ey]; exact k1, by rw [ey]; exact k2, a, by rw [ey]; exact ha, hs, he⟩
      | obj Q =>
        obtain ⟨k1, k2, a, ha, hs⟩ := hk
        exact ⟨by rw [ey]; exact k1, by rw [ey]; exact k2, a, by rw [ey]; exact ha, hs⟩
      | ro sz n el =>
        intro hn
        rw [ey]
        exact hk hn
  · rcases hm y b hy with ⟨rfl, rfl⟩ | ⟨rfl, rfl⟩ | ⟨h1, h2, h3⟩
    · exact hb.elim
    · exact hb.elim
    · rcases hm z d hz with ⟨rfl, rfl⟩ | ⟨rfl, rfl⟩ | ⟨k1, k2, k3⟩
      · exact absurd hd (Nat.lt_irrefl 0)
      · have := hlt y b h3 hb
        have := (hp hd).1
        rw [e1, e3 y h1 h2]
        omega
      · rw [e3 y h1 h2, e3 z k1 k2]
        exact h.ne y z b d h3 k3 hb hd hne
  · unfold rowM
    rw [up_other _ _ (by omega), up_same]; rfl
  · unfold rowM
    rw [up_same]; rfl
  · obtain ⟨h1, h2, h3, _⟩ := hp h0
    refine ⟨?_, by rw [e1]; exact h1⟩
    rw [e2, hq0, h3]
    exact Nat.one_ne_zero
  · rw [e2, hq0]
    exact hcn
  · simp only [AC.conc, rowAd, e1, e2, hq0, hp0]
    cases A with
    | none => rfl
    | some a =>
      have := hsp a rfl
      obtain ⟨b, o, s⟩ := a
      simp only at this
      subst this
      rfl
  · rcases hm y b hy with ⟨rfl, rfl⟩ | ⟨rfl, rfl⟩ | ⟨h1, h2, h3⟩
    · exact hb.elim
    · exact hb.elim
    · rw [e3 y h1 h2]; exact hlt y b h3 hb
theorem SatM.addL {w w' : World} {g : Nat} (hg : g ≤ w.heap.size) : ∀ (l : List RC) (q : List Nat) (cs : List Value) (m : Mem) (ρ : Val), SatM E ρ m w' → (∀ y b, m y = some b → b.own → (ρ y).1 < w.heap.size) → saysL w w' l cs → okN m l q →
    ∃ ρ' : Val, (∀ y, (m y).isSome = true → ρ' y = ρ y) ∧ (∀ y, (m y).isSome = true → (mL m l q y).isSome = true) ∧ SatM E ρ' (mL m l q) w' ∧ (∀ a ∈ acL g l q, a.ok ρ' (mL m l q)) ∧ (acL g l q).map (AC.conc ρ') = cs
  | [], q, [], m, ρ, h, _, _, _ => ⟨ρ, fun _ _ => rfl, fun _ h => h, h, fun a ha => (by cases ha), rfl⟩
  | [], q, _ :: _, m, ρ, _, _, hs, _ => hs.elim
  | _ :: _, q, [], m, ρ, _, _, hs, _ => by cases hs
  | .p v :: r, q, u :: s, m, ρ, h, hlt, hs, hn => by
    obtain ⟨ρ', h1, h2, h3, h4, h5⟩ := SatM.addL hg r q s m ρ h hlt hs.2 hn
    refine ⟨ρ', h1, h2, h3, fun a ha => ?_, ?_⟩
    · cases ha with
      | head => trivial
      | tail _ ha => exact h4 a ha
    · show AC.conc ρ' (.k v) :: (acL g r q).map (AC.conc ρ') = u :: s
      rw [h5]
      have : u = v := hs.1
      subst this
      rfl
  | .r n sz el :: r, [], u :: s, m, ρ, h, hlt, hs, hn => hn.elim
  | .r n sz el :: r, x :: q, u :: s, m, ρ, h, hlt, hs, hn => by
    obtain ⟨A, c, hu, hcn, hsp, hr⟩ := hs.1
    obtain ⟨k1, k2, k3, k4⟩ := hn
    obtain ⟨ρ1, g1, g2, g3, g4, g5⟩ := h.addRow hlt k1 k2 k3 hr hsp hcn
    obtain ⟨ρ', h1, h2, h3, h4, h5⟩ := SatM.addL hg r q s (rowM m x n sz el) ρ1 g2 g5 hs.2 k4
    have hsome : ∀ y, (m y).isSome = true → (rowM m x n sz el y).isSome = true := fun y hy => isSome_rowM y hy
    have okrow : AC.ok ρ' (mL (rowM m x n sz el) r q) (.row x n g) := by
      have o1 := AC.ok_mono h2 h1 g3
      exact ⟨o1.1, o1.2.1, fun h0 => ⟨(o1.2.2.1 h0).1, Nat.le_trans hg (o1.2.2.1 h0).2⟩, o1.2.2.2⟩
    refine ⟨ρ', fun y hy => (h1 y (hsome y hy)).trans (g1 y hy), fun y hy => h2 y (hsome y hy), h3, fun a ha => ?_, ?_⟩
    · cases ha with
      | head => exact okrow
      | tail _ ha => exact h4 a ha
    · show AC.conc ρ' (.row x n g) :: (acL g r q).map (AC.conc ρ') = u :: s
      rw [h5, hu, ← g4]
      congr 1
      have := AC.conc_mono h1 g3
      exact this
/-- What comes of an answer in the caller's state. -/
theorem SatM.answer {ρ : Val} {m : Mem} {w w' : World} (h : SatM E ρ m w) (hb : Below w.heap.size w w') {rvs : List RV} {cs : List Value} (hs : saysL w w' (flatV rvs) cs) (q : List Nat) (hn : okN m (flatV rvs) q) :
    ∃ ρ' : Val, (∀ y, (m y).isSome = true → ρ' y = ρ y) ∧ (∀ y, (m y).isSome = true → (mL m (flatV rvs) q y).isSome = true) ∧ SatM E ρ' (mL m (flatV rvs) q) w' ∧ (tvL (avL rvs (acL E.w0.heap.size (flatV rvs) q))).rep ρ' (mL m (flatV rvs) q) (tupV (valL rvs cs)) := by
  obtain ⟨ρ', h1, h2, h3, h4, h5⟩ := SatM.addL (w := w) (g := E.w0.heap.size) h.fr.size (flatV rvs) q cs m ρ (h.below hb) (fun y b hy ho => h.lt hy ho) hs hn
  refine ⟨ρ', h1, h2, h3, ?_⟩
  have := tvL_rep (avL_ok rvs (acL E.w0.heap.size (flatV rvs) q) h4)
  rw [avL_conc, h5] at this
  exact this
/-- A row that a call has made can be read. -/
theorem SatM.rowR {ρ : Val} {m : Mem} {w : World} (h : SatM E ρ m w) {x n sz n2 g : Nat} {el : Nat → List Value} (hx : m x = some (.ro sz n2 el)) (ho : AC.ok ρ m (.row x n g)) (hn : n ≤ n2) : RdRow w (rowAd ρ x) n sz el := by
  intro h0
  obtain ⟨h1, h2⟩ := h.ok x _ hx (by omega)
  exact ⟨(ρ x).1, (ρ x).2, if_neg (ho.2.2.1 h0).1, h1, fun i hi => h2 i (by omega)⟩
/-- A call whose answer has a shape. -/
theorem GO.callAns {ops : Array Oper} {rest : List Oper} {o : Oper} {c : Call} {f : FuncId} {avs : List AV} {caps : List Cap} {t : Nat → TV} {m : Mem} (rvs : List RV) (q : List Nat) (hg : o.guard = none) (hop : o.op = .call c) (he : callE t c = .mk f avs caps) (hd : dstOk E.N o.dst = true) (hn : okN m (flatV rvs) q)
    (hcf : ∀ (args : Array Value) (w : World), (callFunc f args).run P w = .ok (.enter f args) w)
    (hc : ∀ ρ w, SatM E ρ m w → (∀ v ∈ avs, v.ok ρ m) → Calls P f (avs.map (AV.conc ρ) ++ caps.map (Cap.conc ρ)).toArray w fun e w' => Ans w w' rvs e ∧ Below w.heap.size w w')
    (k : GO P E ops K rest ⟨Sx.putT t o.dst (tvL (avL rvs (acL E.w0.heap.size (flatV rvs) q))), mL m (flatV rvs) q⟩) : GO P E ops K (o :: rest) ⟨t, m⟩ := by
  refine GO.call hg hop he hcf (fun ρ a w hs hok _ => (hc ρ w hs.mem hok).mono ?_)
  rintro e w' ⟨⟨cs, hs1, rfl⟩, hb⟩
  obtain ⟨ρ', h1, h2, h3, h4⟩ := hs.mem.answer hb hs1 q hn
  exact ⟨_, ρ', _, rfl, (hs.move h3 h2 h1).putT (dstOk_lt hd) h4, k⟩
/-! ### In regions that draw -/
def msL : List RC → List Nat → List (Nat × Blk)
  | .p _ :: r, q => msL r q
  | .r n sz el :: r, x :: q => msL r q ++ [(x + 50, .ro 0 0 fun _ => []), (x, .ro sz n el)]
  | _, _ => []
theorem mget_app (a b : List (Nat × Blk)) (y : Nat) : mget (a ++ b) y = match mget a y with | some v => some v | none => mget b y := by
  induction a with
  | nil => rfl
  | cons p r ih =>
    simp only [List.cons_append, mget]
    cases Nat.beq y p.1 with
    | true => rfl
    | false => exact ih
theorem upm_msL : ∀ (l : List RC) (q : List Nat) (m : Mem), upm m (msL l q) = mL m l q
  | [], q, m => by cases q <;> rfl
  | .p _ :: r, q, m => upm_msL r q m
  | .r .. :: _, [], m => rfl
  | .r n sz el :: r, x :: q, m => by
    show upm m (msL r q ++ _) = mL (rowM m x n sz el) r q
    rw [← upm_msL r q]
    funext y
    simp only [upm, mget_app, rowM, up, mget]
    cases mget (msL r q) y with
    | some v => rfl
    | none =>
      cases Nat.beq y (x + 50) with
      | true => rfl
      | false => cases Nat.beq y x <;> rfl
theorem okN_same : ∀ {l : List RC} {q : List Nat} {m m' : Mem}, (∀ y, (mget (msL l q) y).isSome = true → m' y = m y) → okN m l q → okN m' l q
  | [], q, _, _, _, _ => by cases q <;> trivial
  | .p _ :: r, q, m, m', hq, h => okN_same (l := r) (q := q) hq h
  | .r .. :: _, [], _, _, _, h => h.elim
  | .r n sz el :: r, x :: q, m, m', hq, h => by
    obtain ⟨h1, h2, h3, h4⟩ := h
    have at1 : ∀ y, (y = x ∨ y = x + 50) → m' y = m y := fun y hy => hq y (by
      show (mget (msL r q ++ _) y).isSome = true
      rw [mget_app]
      cases mget (msL r q) y with
      | some v => rfl
      | none =>
        simp only [mget]
        rcases hy with rfl | rfl
        · cases Nat.beq y (y + 50) <;> simp
        · simp)
    refine ⟨by rw [at1 x (.inl rfl)]; exact h1, by rw [at1 _ (.inr rfl)]; exact h2, h3, okN_same (fun y hy => ?_) h4⟩
    have : m' y = m y := hq y (by
      show (mget (msL r q ++ _) y).isSome = true
      rw [mget_app]
      cases hm : mget (msL r q) y with
      | some v => rfl
      | none => rw [hm] at hy; cases hy)
    simp only [rowM, up, this]
theorem Steps.callAns {ops : Array Oper} {o : Oper} {c : Call} {f : FuncId} {avs : List AV} {caps : List Cap} {C : St} (rvs : List RV) (q : List Nat) (hg : o.guard = none) (hop : o.op = .call c) (he : callE C.t c = .mk f avs caps) (hd : dstOk E.N o.dst = true) (hn : okN C.m (flatV rvs) q)
    (hcf : ∀ (args : Array Value) (w : World), (callFunc f args).run P w = .ok (.enter f args) w)
    (hc : ∀ m, LeM C.m m → ∀ ρ w, SatM E ρ m w → (∀ v ∈ avs, v.ok ρ m) → Calls P f (avs.map (AV.conc ρ) ++ caps.map (Cap.conc ρ)).toArray w fun e w' => Ans w w' rvs e ∧ Below w.heap.size w w') :
    Steps P E ops o C (tvL (avL rvs (acL E.w0.heap.size (flatV rvs) q))) (msL (flatV rvs) q) := by
  intro st hle ρ a w hs Kc Q hk
  have hs' := hs.weakT hle.t
  obtain ⟨hr, hok, hok2⟩ := call_run hs' hop he hcf
  rw [if_pos (by simp [Region.wanted, hg])]
  unfold Oper.wp
  rw [hr]
  refine (hc st.m hle.m ρ w hs.mem hok).mono ?_
  rintro e w' ⟨⟨cs, hs1, rfl⟩, hb⟩
  obtain ⟨ρ', h1, h2, h3, h4⟩ := hs.mem.answer hb hs1 q (okN_same hle.n hn)
  refine hk ρ' _ w' ?_
  rw [upm_msL]
  exact (hs.move h3 h2 h1).putT (dstOk_lt hd) h4
theorem GD.callAns {l : List Oper} {cls : List Nat} {X : List (Nat × Nat)} {base : St} {recs : List DR} {o : Oper} {rest : List Oper} {t : Nat → TV} {m : Mem} {c : Call} {f : FuncId} {avs : List AV} {caps : List Cap} (rvs : List RV) (q : List Nat) (i : Nat) (hi : recs.length = i) (hg : o.guard = none) (hop : o.op = .call c) (he : callE (canF l cls X base i recs).t c = .mk f avs caps) (hd : dstOk E.N o.dst = true)
    (hn : okN (canF l cls X base i recs).m (flatV rvs) q) (hw : Wok X i o (msL (flatV rvs) q) = true)
    (hcf : ∀ (args : Array Value) (w : World), (callFunc f args).run P w = .ok (.enter f args) w)
    (hc : ∀ m, LeM (canF l cls X base i recs).m m → ∀ ρ w, SatM E ρ m w → (∀ v ∈ avs, v.ok ρ m) → Calls P f (avs.map (AV.conc ρ) ++ caps.map (Cap.conc ρ)).toArray w fun e w' => Ans w w' rvs e ∧ Below w.heap.size w w')
    (k : GD P E K l cls X base (⟨o, tvL (avL rvs (acL E.w0.heap.size (flatV rvs) q)), msL (flatV rvs) q⟩ :: recs) rest (Sx.putT t o.dst (tvL (avL rvs (acL E.w0.heap.size (flatV rvs) q)))) (upm m (msL (flatV rvs) q))) : GD P E K l cls X base recs (o :: rest) t m := by
  rw [canF_eq hi] at he hn hc
  exact GD.step (Steps.callAns rvs q hg hop he hd hn hcf hc) (by rw [hi]; exact hw) k
/-- An operation under a guard that is known to let it run (one that makes a block, too). -/
theorem Steps.opT (hT : Tab.fine P T) {ops : Array Oper} {o : Oper} {C : St} {j : Nat} {want cb : Bool} {av : AV} {m' : Mem} {obs : List Prop} (hct : cb = true) (hg : o.guard = some (j, want)) (hb : guardB ops C.t j want = some cb)
    (hob : AllP (stripObs C.t j want cb (slotsOf o.op.operands.toList))) (hd : dstOk E.N o.dst = true) (h : evOp T (dx o) (evG C.t j want (slotsOf o.op.operands.toList)) C.m o.op = .ok (.v av) m' obs) (ho : AllP obs) :
    Steps P E ops o C (.grd j want cb av) (msOf (evG C.t j want (slotsOf o.op.operands.toList)) (dx o) o.op m') := by
  subst hct
  intro st hle ρ a w hs Kc Q hk
  have hs' := hs.weakT hle.t
  have hw := wanted_cond (ops := ops) hs' hg hb
  rw [hw, if_pos rfl]
  have hsnd := evOp_sound (P := P) (E := E) (o := o) hT hs.mem (fun _ => rfl) (evG_rep hs' hob rfl) rfl (evOp_mem hle.m hle.d h) ho
  refine Snd.go hs (dstOk_lt hd) (tv := .grd j want true av) ?_ fun ρ' a' w' hs'' => hk ρ' a' w' hs''
  obtain ⟨n, w', ρ', h1, h2, h3, h4, h5⟩ := hsnd
  refine ⟨n, w', ρ', h1, ?_, h3, h4, h5⟩
  rcases h2 with ⟨v, hn, hv⟩ | ⟨_, hn⟩
  · exact .inl ⟨v, hn, fun _ => hv, fun hf => (by cases hf)⟩
  · cases hn
theorem GD.opT (hT : Tab.fine P T) {l : List Oper} {cls : List Nat} {X : List (Nat × Nat)} {base : St} {recs : List DR} {o : Oper} {rest : List Oper} {t : Nat → TV} {m : Mem} {j : Nat} {want cb : Bool} {av : AV} {m' : Mem} {obs : List Prop} {ms : List (Nat × Blk)} (i : Nat) (hi : recs.length = i) (hct : cb = true) (hg : o.guard = some (j, want)) (hb : guardB l.toArray (canF l cls X base i recs).t j want = some cb)
    (hob : AllP (stripObs (canF l cls X base i recs).t j want cb (slotsOf o.op.operands.toList))) (hd : dstOk E.N o.dst = true) (h : evOp T (dx o) (evG (canF l cls X base i recs).t j want (slotsOf o.op.operands.toList)) (canF l cls X base i recs).m o.op = .ok (.v av) m' obs) (ho : AllP obs)
    (hms : msOf (evG (canF l cls X base i recs).t j want (slotsOf o.op.operands.toList)) (dx o) o.op m' = ms) (hw : Wok X i o ms = true)
    (k : GD P E K l cls X base (⟨o, .grd j want cb av, ms⟩ :: recs) rest (Sx.putT t o.dst (.grd j want cb av)) (upm m ms)) : GD P E K l cls X base recs (o :: rest) t m := by
  subst hms
  rw [canF_eq hi] at hb hob h hw k
  exact GD.step (Steps.opT hT hct hg hb hob hd h ho) (by rw [hi]; exact hw) k
theorem Steps.callAnsT {ops : Array Oper} {o : Oper} {c : Call} {j : Nat} {want cb : Bool} {f : FuncId} {avs : List AV} {caps : List Cap} {C : St} {av : AV} (rvs : List RV) (q : List Nat) (hct : cb = true) (hg : o.guard = some (j, want)) (hb : guardB ops C.t j want = some cb) (hop : o.op = .call c)
    (hob : AllP (stripObs C.t j want cb (slotsOf o.op.operands.toList))) (he : callE (tG C.t j want (slotsOf o.op.operands.toList)) c = .mk f avs caps) (hd : dstOk E.N o.dst = true) (hn : okN C.m (flatV rvs) q)
    (hcf : ∀ (args : Array Value) (w : World), (callFunc f args).run P w = .ok (.enter f args) w) (hav : tvL (avL rvs (acL E.w0.heap.size (flatV rvs) q)) = .v av)
    (hc : ∀ m, LeM C.m m → ∀ ρ w, SatM E ρ m w → (∀ v ∈ avs, v.ok ρ m) → Calls P f (avs.map (AV.conc ρ) ++ caps.map (Cap.conc ρ)).toArray w fun e w' => Ans w w' rvs e ∧ Below w.heap.size w w') :
    Steps P E ops o C (.grd j want cb av) (msL (flatV rvs) q) := by
  subst hct
  intro st hle ρ a w hs Kc Q hk
  have hs' := hs.weakT hle.t
  have hw := wanted_cond (ops := ops) hs' hg hb
  rw [hw, if_pos rfl]
  obtain ⟨hr, hok, hok2⟩ := call_run (hs'.tG hob rfl) hop he hcf
  unfold Oper.wp
  rw [hr]
  refine (hc st.m hle.m ρ w hs.mem hok).mono ?_
  rintro e w' ⟨⟨cs, hs1, rfl⟩, hb⟩
  obtain ⟨ρ', h1, h2, h3, h4⟩ := hs.mem.answer hb hs1 q (okN_same hle.n hn)
  rw [hav] at h4
  refine hk ρ' _ w' ?_
  rw [upm_msL]
  exact (hs.move h3 h2 h1).putT (dstOk_lt hd) (tv := .grd j want true av) ⟨fun _ => h4, fun hf => (by cases hf)⟩
theorem GD.callAnsT {l : List Oper} {cls : List Nat} {X : List (Nat × Nat)} {base : St} {recs : List DR} {o : Oper} {rest : List Oper} {t : Nat → TV} {m : Mem} {c : Call} {j : Nat} {want cb : Bool} {f : FuncId} {avs : List AV} {caps : List Cap} {av : AV} (rvs : List RV) (q : List Nat) (i : Nat) (hi : recs.length = i) (hct : cb = true) (hg : o.guard = some (j, want)) (hb : guardB l.toArray (canF l cls X base i recs).t j want = some cb) (hop : o.op = .call c)
    (hob : AllP (stripObs (canF l cls X base i recs).t j want cb (slotsOf o.op.operands.toList))) (he : callE (tG (canF l cls X base i recs).t j want (slotsOf o.op.operands.toList)) c = .mk f avs caps) (hd : dstOk E.N o.dst = true) (hn : okN (canF l cls X base i recs).m (flatV rvs) q) (hw : Wok X i o (msL (flatV rvs) q) = true)
    (hcf : ∀ (args : Array Value) (w : World), (callFunc f args).run P w = .ok (.enter f args) w) (hav : tvL (avL rvs (acL E.w0.heap.size (flatV rvs) q)) = .v av)
    (hc : ∀ m, LeM (canF l cls X base i recs).m m → ∀ ρ w, SatM E ρ m w → (∀ v ∈ avs, v.ok ρ m) → Calls P f (avs.map (AV.conc ρ) ++ caps.map (Cap.conc ρ)).toArray w fun e w' => Ans w w' rvs e ∧ Below w.heap.size w w')
    (k : GD P E K l cls X base (⟨o, .grd j want cb av, msL (flatV rvs) q⟩ :: recs) rest (Sx.putT t o.dst (.grd j want cb av)) (upm m (msL (flatV rvs) q))) : GD P E K l cls X base recs (o :: rest) t m := by
  rw [canF_eq hi] at hb hob he hn hc
  exact GD.step (Steps.callAnsT rvs q hct hg hb hop hob he hd hn hcf hav hc) (by rw [hi]; exact hw) k
end
/-! ### On the callee's side -/
/-- A row in memory that is ours or that a call of ours has made. -/
def rowC (g : Nat) (m : Mem) (n sz : Nat) (el : Nat → List Value) : AC → Prop
  | .k (.slice A len c) => len = n ∧ n = 0 ∧ ∀ a, A = some a → a.spot = none
  | .slc x i0 sz' len c => n ≤ c ∧ rowAt m n sz el (.v (.c (.slc x i0 sz' len c)))
  | .row x len g' => len = n ∧ g ≤ g' ∧ ∃ n2 el2, m x = some (.ro sz n2 el2) ∧ n ≤ n2 ∧ ∀ i, i < n → el i = el2 i
  | _ => False
def cellAt (g : Nat) (m : Mem) : RC → AC → Prop
  | .p v, a => a = .k v
  | .r n sz el, a => rowC g m n sz el a
def cellsAt (g : Nat) (m : Mem) : List RC → List AC → Prop
  | [], [] => True
  | a :: r, b :: s => cellAt g m a b ∧ cellsAt g m r s
  | _, _ => False
def avAt (g : Nat) (m : Mem) : RV → AV → Prop
  | .c a, .c b => cellAt g m a b
  | .agg l, .agg k => cellsAt g m l k
  | _, _ => False
def resAt (T : Tab) (g : Nat) (st : St) : List RV → List ResultVar → Prop
  | [], [] => True
  | rv :: r, x :: s => (∃ av, resOne T st x = .v av ∧ avAt g st.m rv av) ∧ resAt T g st r s
  | _, _ => False
section
variable {P : Program} {E : Env} {K : Exit → St → Prop} {T : Tab}
theorem cellAt_says {w0 : World} {N : Nat} {ρ : Val} {m : Mem} {w : World} (hm : SatM ⟨w0, [], N⟩ ρ m w) {rc : RC} {a : AC} (ha : a.ok ρ m) (h : cellAt w0.heap.size m rc a) : rc.says w0 w (a.conc ρ) := by
  cases rc with
  | p v =>
    have : a = .k v := h
    subst this
    rfl
  | r n sz el =>
    cases a with
    | k v =>
      cases v with
      | slice A len c =>
        obtain ⟨rfl, rfl, h3⟩ := h
        exact ⟨A, c, rfl, Nat.zero_le _, h3, fun h0 => absurd h0 (Nat.lt_irrefl 0)⟩
      | _ => exact h.elim
    | slc x i0 sz' len c =>
      obtain ⟨h1, h2⟩ := h
      obtain ⟨A, c', h3, h4⟩ := rowAt_new hm (tv := .v (.c (.slc x i0 sz' len c))) (v := AC.conc ρ (.slc x i0 sz' len c)) ⟨ha, rfl⟩ h2
      have h5 : Value.slice (some ⟨(ρ x).1, (ρ x).2 + i0 * sz', none⟩) len c = .slice A n c' := h3
      injection h5 with e1 e2 e3
      subst e1; subst e2; subst e3
      exact ⟨_, c, rfl, h1, fun a ha => by injection ha with ha; subst ha; rfl, h4⟩
    | row x len g' =>
      obtain ⟨rfl, hg, n2, el2, hx, hn, hel⟩ := h
      obtain ⟨o1, o2, o3, o4⟩ := ha
      refine ⟨rowAd ρ x, _, rfl, o4, fun a ha => ?_, fun h0 => ?_⟩
      · unfold rowAd at ha
        split at ha
        · cases ha
        · injection ha with ha; subst ha; rfl
      · obtain ⟨h1, h2⟩ := hm.ok x _ hx (by omega)
        refine ⟨(ρ x).1, (ρ x).2, if_neg (o3 h0).1, Nat.le_trans hg (o3 h0).2, h1, fun i hi => ?_⟩
        rw [hel i hi]
        exact h2 i (by omega)
    | _ => exact h.elim
theorem cellsAt_says {w0 : World} {N : Nat} {ρ : Val} {m : Mem} {w : World} (hm : SatM ⟨w0, [], N⟩ ρ m w) : ∀ {l : List RC} {k : List AC}, (∀ a ∈ k, a.ok ρ m) → cellsAt w0.heap.size m l k → saysL w0 w l (k.map (AC.conc ρ)) ∧ k.length = l.length
  | [], [], _, _ => ⟨trivial, rfl⟩
  | [], _ :: _, _, h => h.elim
  | _ :: _, [], _, h => h.elim
  | a :: r, b :: s, ho, h => by
    obtain ⟨h1, h2⟩ := cellsAt_says hm (l := r) (k := s) (fun a ha => ho a (.tail _ ha)) h.2
    exact ⟨⟨cellAt_says hm (ho b (.head _)) h.1, h1⟩, by simp [h2]⟩
theorem saysL_app {w w' : World} : ∀ {a b : List RC} {x y : List Value}, saysL w w' a x → saysL w w' b y → saysL w w' (a ++ b) (x ++ y)
  | [], b, [], y, _, h => h
  | [], _, _ :: _, _, h, _ => h.elim
  | _ :: _, _, [], _, h, _ => h.elim
  | a :: r, b, u :: s, y, h, h2 => ⟨h.1, saysL_app h.2 h2⟩
theorem resAt_run (hT : Tab.fine P T) {w0 : World} {N : Nat} {st : St} {ρ : Val} {a : Act} {w : World} (hs : Sat ⟨w0, [], N⟩ ρ st a w) : ∀ {rvs : List RV} {l : List ResultVar}, resAt T w0.heap.size st rvs l →
    ∃ us cs, (l.mapM (m := Sem) (resSem a)).run P w = .ok us w ∧ saysL w0 w (flatV rvs) cs ∧ us = valL rvs cs
  | [], [], _ => ⟨[], [], rfl, trivial, rfl⟩
  | [], _ :: _, h => h.elim
  | _ :: _, [], h => h.elim
  | rv :: r, x :: s, h => by
    obtain ⟨⟨av, h1, h2⟩, h3⟩ := h
    obtain ⟨us, cs, h4, h5, h6⟩ := resAt_run hT hs h3
    obtain ⟨h7, h8⟩ := resOne_run hT hs h1
    cases rv with
    | c rc =>
      cases av with
      | c b =>
        refine ⟨b.conc ρ :: us, b.conc ρ :: cs, by simp only [List.mapM_cons, Sem.run_bind, h7, h4, Result.andThen_ok, Sem.run_pure]; rfl, ⟨cellAt_says hs.mem h8 h2, h5⟩, by rw [h6]; rfl⟩
      | agg k => exact h2.elim
    | agg l =>
      cases av with
      | c b => exact h2.elim
      | agg k =>
        obtain ⟨g1, g2⟩ := cellsAt_says hs.mem h8 h2
        refine ⟨(AV.agg k).conc ρ :: us, k.map (AC.conc ρ) ++ cs, by simp only [List.mapM_cons, Sem.run_bind, h7, h4, Result.andThen_ok, Sem.run_pure], saysL_app g1 h5, ?_⟩
        have e1 : (k.map (AC.conc ρ) ++ cs).take l.length = k.map (AC.conc ρ) := by rw [← g2, ← @List.length_map _ _ k (AC.conc ρ), List.take_left]
        have e2 : (k.map (AC.conc ρ) ++ cs).drop l.length = cs := by rw [← g2, ← @List.length_map _ _ k (AC.conc ρ), List.drop_left]
        simp only [valL, e1, e2, h6, AV.conc]
theorem tupV_results {P : Program} {fn : Func} {a : Act} {w : World} {us : List Value} (h : (fn.results.toList.mapM (m := Sem) (resSem a)).run P w = .ok us w) : (results fn a.tmps).run P w = .ok (tupV us) w := by
  have e : results fn a.tmps = (fn.results.mapM (m := Sem) (resSem a) >>= fun vs => pure (if h : vs.size = 1 then vs[0] else Value.tuple vs)) := by
    unfold results
    congr 2
  have h3 : (fn.results.mapM (m := Sem) (resSem a)).run P w = .ok us.toArray w := by
    rw [Array.mapM_eq_mapM_toList]
    simp only [Sem.run_map, h, Result.andThen_ok]
  rw [e]
  simp only [Sem.run_bind, h3, Result.andThen_ok, Sem.run_pure]
  congr 1
  match us with
  | [u] => rfl
  | [] => rfl
  | u :: u' :: r => rfl
def endAns (T : Tab) (fn : Func) (g : Nat) (rvs : List RV) : Exit → St → Prop := fun e st => (e = .ret ∨ e = .normal) ∧ resAt T g st rvs fn.results.toList
theorem enterAns (hT : Tab.fine P T) {f : FuncId} {fn : Func} {c : Code} {args : Array Value} {w : World} (rvs : List RV) (hf : P.funcs[f]? = some fn) (hb : fn.body = some c) (N : Nat) (hN : fn.ntmps = N) (avs : List AV) (l : List Inp)
    (hargs : args = (avs.map (AV.conc (inpsV l))).toArray) (hl : Nat.ble avs.length N = true) (hr : allRd w l) (ha : allInps l avs)
    (h : G P ⟨w, [], N⟩ (endAns T fn w.heap.size rvs) c ⟨argsT avs, lkM (inpsM l)⟩) : Calls P f args w fun e w' => Ans w w' rvs e ∧ Below w.heap.size w w' := by
  subst hN
  refine enter (E := ⟨w, [], fn.ntmps⟩) hf hb (inpsV l) (Sat.init hr ha hargs (Nat.le_of_ble_eq_true hl)) (h.mono fun e st hk => ⟨hk.1, fun ρ a w' hs => ?_⟩)
  obtain ⟨us, cs, h1, h2, h3⟩ := resAt_run hT hs hk.2
  exact ⟨_, tupV_results h1, ⟨cs, h2, by rw [h3]⟩, hs.mem.fr.toBelow⟩
theorem endAns.ret {fn : Func} {g : Nat} {rvs : List RV} {st : St} (h : resAt T g st rvs fn.results.toList) : endAns T fn g rvs .ret st := ⟨.inl rfl, h⟩
theorem endAns.norm {fn : Func} {g : Nat} {rvs : List RV} {st : St} (h : resAt T g st rvs fn.results.toList) : endAns T fn g rvs .normal st := ⟨.inr rfl, h⟩
/-! ### A whole array's element -/
theorem dropK_eq {l : List AC} {n : Nat} {K : List AC → RR} (h : n ≤ l.length) : dropK l n K = K (l.drop n) := by
  induction n generalizing l with
  | zero => cases l <;> rfl
  | succ n ih =>
    cases l with
    | nil => simp at h
    | cons a r => exact ih (by simpa using h)
theorem GO.indexAt (hT : Tab.fine P T) {ops : Array Oper} {rest : List Oper} {o : Oper} {t e d N : Nat} {y i : Operand} {dd de : TyD} {t0 : Nat → TV} {m : Mem} {kd : IntKind} (vs : List Value) (k : Nat) (v : Value) (hg : o.guard = none) (hop : o.op = .index t y i) (hd : o.dst = some d) (hdN : Nat.blt d E.N = true)
    (ht : T t = some dd) (hk : dd.kind = .array N e) (he : T e = some de) (h1 : de.size = 1) (ha : de.kind.isAgg = false) (hy : evT t0 y = .v (.agg (vs.map .k))) (hi : evT t0 i = .v (.c (.k (.int kd (k : Int))))) (hv : vs[k]? = some v) (hkN : k < N)
    (cont : GO P E ops K rest ⟨up t0 d (.v (.c (.k v))), m⟩) : GO P E ops K (o :: rest) ⟨t0, m⟩ := by
  have hlt : k < vs.length := (List.getElem?_eq_some_iff.1 hv).1
  have hev : evIndex T m t (evT t0 y) (evT t0 i) = .ok (.v (.c (.k v))) m [0 ≤ (k : Int), (k : Int) < (N : Int)] := by
    rw [hy, hi]
    unfold evIndex
    simp only [ht, hk, he, h1, ha, Int.toNat_natCast, Nat.mul_one]
    rw [dropK_eq (by simp; omega)]
    have : (vs.map AC.k).drop k = .k v :: (vs.map AC.k).drop (k + 1) := by
      rw [List.drop_eq_getElem_cons (by simpa using hlt)]
      congr 1
      simp only [List.getElem_map]
      congr 1
      have := List.getElem?_eq_getElem hlt
      rw [this] at hv
      injection hv
    rw [this]
    generalize (vs.map AC.k).drop (k + 1) = r
    cases r <;> rfl
  have hstep : stepE T E.N ops t0 m o = .ok (.v (.c (.k v))) m [0 ≤ (k : Int), (k : Int) < (N : Int)] := by
    unfold stepE
    have : dstOk E.N o.dst = true := by rw [hd]; exact hdN
    rw [this, hg, hd, hop]
    exact hev
  exact GO.step (st := ⟨t0, m⟩) hT hstep ⟨by omega, by omega, trivial⟩ (by rw [hd]; exact cont)
theorem GO.emptySliceS {ops : Array Oper} {rest : List Oper} {o : Oper} {t e d : Nat} {t0 : Nat → TV} {m : Mem} {dd : TyD} (hT : Tab.fine P T) (hg : o.guard = none) (hop : o.op = .buildSlice t 0 #[]) (hd : o.dst = some d) (hdN : Nat.blt d E.N = true) (ht : T t = some dd) (hk : dd.kind = .slice e) {de : TyD} (he : T e = some de)
    (k : ∀ A, (∀ a : Addr, A = some a → a.spot = none) → GO P E ops K rest ⟨up t0 d (.v (.c (.k (.slice A 0 0)))), m⟩) : GO P E ops K (o :: rest) ⟨t0, m⟩ := by
  intro ρ a w hs
  have hkind := (hT.ok t dd ht).kind
  rw [hk] at hkind
  have hsz := (hT.ok e de he).size w
  have hrun : (execOp a.eval o).run P w = .ok (.value (.slice (some ⟨w.heap.size, 0, none⟩) 0 0)) (w.alloc (.cells #[] e)) := by
    simp [execOp, hop, Instr.buildSlice, hkind w, hsz, Instr.fill, newRow]
    rw [show (w.alloc (.cells #[] e)) = w.alloc (.cells (Array.map (fun _ => (default : Value)) (Array.range 0)) e) by rw [show (Array.map (fun _ => (default : Value)) (Array.range 0)) = #[] from by apply Array.toList_inj.1; simp]]
  unfold wpList
  rw [if_pos (by simp [Region.wanted, hg])]
  refine .inl ?_
  unfold Oper.wp
  rw [hrun]
  refine k (some ⟨w.heap.size, 0, none⟩) (fun a ha => by injection ha with ha; subst ha; rfl) ρ _ _ ?_
  rw [hd]
  exact (hs.below ((Below.refl _ _).alloc (Nat.le_refl _) _)).put (by simpa [Nat.blt_eq] using hdN) ⟨trivial, rfl⟩
/-! ### A list that grows from nothing on -/
def accV (d sz n c : Nat) : AC := match n with
  | 0 => .k (.slice none 0 0)
  | n + 1 => .slc d 0 sz (n + 1) c
theorem GO.appendAcc {ops : Array Oper} {rest : List Oper} {o : Oper} {s y : Operand} {t e size bytes d n c : Nat} {z : Value} {t0 : Nat → TV} {m : Mem} {el : Nat → List Value} {q c1 : Nat} {ty1 : TypeId} (vs : List Value) (tl : List (Nat × TV)) (ml : List (Nat × Blk)) (hp : ApT P t e size bytes z) (hg : o.guard = none) (hop : o.op = .call { callee := .builtin .append, args := #[s, y], argTypes := #[t, t] })
    (hd : o.dst = some d) (hdN : Nat.blt d E.N = true) (hdb : Nat.blt d 1000 = true) (hs : evT t0 s = .v (.c (accV d size n c))) (hx : 0 < n → m d = some (.arr e size n el ((c - n) * size)))
    (hy : evT t0 y = .v (.c (.slc q 0 size 1 c1))) (hq : m q = some (.var ty1 (vs.map .k))) (hv : vs.length = size) (h1 : ∀ u ∈ vs, u.oneCell' = true)
    (hle : St.le E (St.of tl ml) ⟨t0, m⟩) (hfr : ∀ z b, (St.of tl ml).m z = some b → m z = some b ∧ z ≠ d) (hlen : ∀ k, k < n → (el k).length = size) (b1 : n + 1 ≤ maxLen) (b2 : (n + 1) * bytes ≤ 140737488355328)
    (k : ∀ c', n + 1 ≤ c' → GO P E ops K rest ⟨up (St.of tl ml).t d (.v (.c (.slc d 0 size (n + 1) c'))), up (St.of tl ml).m d (some (.arr e size (n + 1) (elN el n vs) ((c' - (n + 1)) * size)))⟩) : GO P E ops K (o :: rest) ⟨t0, m⟩ := by
  have hfree : (St.of tl ml).m d = none := by
    cases h : (St.of tl ml).m d with
    | none => rfl
    | some b => exact absurd rfl (hfr d b h).2
  cases n with
  | succ n => exact GO.appendOwn vs tl ml hp hg hop hd hdN hdb hdb hs (hx (Nat.succ_pos n)) (Nat.le_refl _) hy hq hv h1 hle hfr hfree hlen b1 b2 k
  | zero =>
    intro ρ a w hsat
    have hs0 := hle ρ a w hsat
    have es : a.eval s = .slice none 0 0 := by have := hsat.eval s; simp only [St.ev, hs] at this; exact this.2
    have ex := hsat.eval y
    simp only [St.ev, hy] at ex
    obtain ⟨B, cc, e3, hr⟩ := (RowOf.var (P := P) (E := E) (c := c1) (n := 1) (sz := size) hq (by omega)) ρ w hsat.mem ex.1
    have hone : ∀ i, i < 1 → elN el 0 vs i = vs := fun i hi => by
      have : i = 0 := by omega
      subst this
      exact elN_eq
    have hr' : RdRow w B 1 size (elN el 0 vs) := hr.congr fun i hi => by
      rw [hone i hi]
      have : i = 0 := by omega
      subst this
      simp [← hv]
    have ex : a.eval y = .slice B 1 cc := ex.2.trans e3
    unfold wpList
    rw [if_pos (by simp [Region.wanted, hg])]
    refine .inl ?_
    unfold Oper.wp
    rcases append_new (ty := o.type) hp (A := none) (c := cc) hr' (fun i hi u hu => h1 u (by rw [hone i hi] at hu; exact hu)) (by omega) (by omega) with ⟨h0, _⟩ | ⟨h0, v', w', hrun, r1, r2⟩
    · cases h0
    · have : (execOp a.eval o).run P w = .ok (.value v') w' := by
        simp [execOp, hop, resolve, invoke, builtin, es, ex, hrun, Result.andThen]
      rw [this]
      obtain ⟨ρ', c', h2, h3, h4, h5⟩ := hs0.mem.newOwn hfree (by simpa [Nat.blt_eq] using hdb) (fun i hi => by rw [hone i hi]; exact hv) h0 r1 r2
      refine k c' h2 ρ' _ w' ?_
      rw [hd]
      refine (hs0.move h4 (fun y hy => isSome_up y hy) h3).put (by simpa [Nat.blt_eq] using hdN) ⟨?_, h5⟩
      show (up (St.of tl ml).m d _ d).isSome = true
      rw [up_same]; rfl
def accMl (d : Nat) (e : TypeId) (sz n c : Nat) (el : Nat → List Value) : List (Nat × Blk) := match n with
  | 0 => []
  | n + 1 => [(d, .arr e sz (n + 1) el ((c - (n + 1)) * sz))]
theorem rowC_acc {g : Nat} {m : Mem} {d sz n c : Nat} {e : TypeId} {el el2 : Nat → List Value} {room : Nat} (hc : n ≤ c) (hm : 0 < n → m d = some (.arr e sz n el2 room)) (he : ∀ i, i < n → el i = el2 i) : rowC g m n sz el (accV d sz n c) := by
  cases n with
  | zero => exact ⟨rfl, rfl, fun a h => by cases h⟩
  | succ n =>
    refine ⟨hc, rfl, rfl, ?_⟩
    rw [hm (Nat.succ_pos n)]
    exact ⟨rfl, by omega, fun i hi => by rw [Nat.zero_add]; exact he i hi⟩
/-! ### Another name for where a row lay -/
def aliasL (x y : Nat) : List AC → List AC → Prop
  | [], [] => True
  | a :: r, b :: s => (b = a ∨ ∃ i sz n c, a = .slc x i sz n c ∧ b = .slc y i sz n c) ∧ aliasL x y r s
  | _, _ => False
theorem aliasL_conc {x y : Nat} {ρ ρ' : Val} {m m' : Mem} (hy : ρ' y = ρ x) (hs : ∀ z, (m z).isSome = true → (m' z).isSome = true) (hm : (m' y).isSome = true) (hρ : ∀ z, (m z).isSome = true → ρ' z = ρ z) : ∀ {a b : List AC}, aliasL x y a b → (∀ c ∈ a, c.ok ρ m) → b.map (AC.conc ρ') = a.map (AC.conc ρ) ∧ ∀ c ∈ b, c.ok ρ' m'
  | [], [], _, _ => ⟨rfl, fun c h => by cases h⟩
  | [], _ :: _, h, _ => h.elim
  | _ :: _, [], h, _ => h.elim
  | a :: r, b :: s, h, ho => by
    obtain ⟨h1, h2⟩ := aliasL_conc hy hs hm hρ h.2 fun c hc => ho c (.tail _ hc)
    have oa := ho a (.head _)
    have : b.conc ρ' = a.conc ρ ∧ b.ok ρ' m' := by
      rcases h.1 with rfl | ⟨i, sz, n, c, rfl, rfl⟩
      · exact ⟨AC.conc_mono hρ oa, AC.ok_mono hs hρ oa⟩
      · exact ⟨by simp only [AC.conc, hy], hm⟩
    refine ⟨by rw [List.map_cons, List.map_cons, h1, this.1], fun c hc => ?_⟩
    cases hc with
    | head => exact this.2
    | tail _ hc => exact h2 c hc
theorem GO.alias {ops : Array Oper} {rest : List Oper} {t : Nat → TV} {m : Mem} {z : Nat} {ty : TypeId} {cells : List AC} (x y : Nat) (cells' : List AC) (hx : (m x).isSome = true) (hy : m y = none) (hyb : Nat.blt y 1000 = true) (hz : m z = some (.var ty cells)) (hc : aliasL x y cells cells')
    (k : GO P E ops K rest ⟨t, up (up m y (some (.ro 0 0 fun _ => []))) z (some (.var ty cells'))⟩) : GO P E ops K rest ⟨t, m⟩ := by
  intro ρ a w hs
  have hyb : y < 1000 := by simpa [Nat.blt_eq] using hyb
  have hzy : z ≠ y := fun e => by subst e; rw [hy] at hz; cases hz
  obtain ⟨m', hm'⟩ : ∃ m', m' = up (up m y (some (.ro 0 0 fun _ => []))) z (some (.var ty cells')) := ⟨_, rfl⟩
  obtain ⟨ρ', hρ'⟩ : ∃ ρ' : Val, ρ' = up ρ y (ρ x) := ⟨_, rfl⟩
  have hρ : ∀ q, (m q).isSome = true → ρ' q = ρ q := fun q hq => by rw [hρ']; exact up_other _ _ (fun e => by subst e; simp [hy] at hq)
  have hsome : ∀ q, (m q).isSome = true → (m' q).isSome = true := fun q hq => by rw [hm']; exact isSome_up q (isSome_up q hq)
  have e1 : ρ' y = ρ x := by rw [hρ', up_same]
  have hmy : (m' y).isSome = true := by rw [hm', up_other _ _ (Ne.symm hzy), up_same]; rfl
  have cs : ∀ q b, m' q = some b → (q = z ∧ b = .var ty cells') ∨ (q = y ∧ b = .ro 0 0 fun _ => []) ∨ (q ≠ z ∧ q ≠ y ∧ m q = some b) := by
    intro q b hq
    rw [hm'] at hq
    by_cases h1 : q = z
    · subst h1; rw [up_same] at hq; injection hq with hq; exact .inl ⟨rfl, hq.symm⟩
    · rw [up_other _ _ h1] at hq
      by_cases h2 : q = y
      · subst h2; rw [up_same] at hq; injection hq with hq; exact .inr (.inl ⟨rfl, hq.symm⟩)
      · rw [up_other _ _ h2] at hq; exact .inr (.inr ⟨h1, h2, hq⟩)
  have hkz := hs.mem.ok z _ hz
  have hzs : (m z).isSome = true := by rw [hz]; rfl
  obtain ⟨a1, a2⟩ := aliasL_conc (ρ := ρ) (ρ' := ρ') (m := m) (m' := m') e1 hsome hmy hρ hc hkz.2.2.2
  have hmem : SatM E ρ' m' w := by
    refine ⟨hs.mem.fr, fun p hp => ?_, fun q b hq => ?_, fun q r b d hq hr hb hd hne => ?_⟩
    · have := hs.mem.bo p hp
      rw [hρ', up_other _ _ (by omega)]; exact this
    · rcases cs q b hq with ⟨rfl, rfl⟩ | ⟨rfl, rfl⟩ | ⟨h1, h2, h3⟩
      · exact ⟨by rw [hρ _ hzs]; exact hkz.1, by rw [hρ _ hzs]; exact hkz.2.1, by rw [hρ _ hzs, a1]; exact hkz.2.2.1, a2⟩
      · intro h0; omega
      · have hk := hs.mem.ok q b h3
        have ey : ρ' q = ρ q := hρ q (by rw [h3]; rfl)
        cases b with
        | var ty cells =>
          have hcm : cells.map (AC.conc ρ') = cells.map (AC.conc ρ) := List.map_congr_left fun c hm => AC.conc_mono hρ (hk.2.2.2 c hm)
          exact ⟨by rw [ey]; exact hk.1, by rw [ey]; exact hk.2.1, by rw [ey, hcm]; exact hk.2.2.1, fun c hc => AC.ok_mono hsome hρ (hk.2.2.2 c hc)⟩
        | arr ty sz n el room =>
          obtain ⟨k1, k2, a, ha, hs, he⟩ := hk
          exact ⟨by rw [ey]; exact k1, by rw [ey]; exact k2, a, by rw [ey]; exact ha, hs, he⟩
        | obj Q =>
          obtain ⟨k1, k2, a, ha, hs⟩ := hk
          exact ⟨by rw [ey]; exact k1, by rw [ey]; exact k2, a, by rw [ey]; exact ha, hs⟩
        | ro sz n el =>
          intro hn
          rw [ey]
          exact hk hn
    · have live : ∀ q b, m' q = some b → b.live → ∃ b0, m q = some b0 ∧ b0.live ∧ (b.own → b0.own) ∧ ρ' q = ρ q := by
        intro q b hq hl
        rcases cs q b hq with ⟨rfl, rfl⟩ | ⟨rfl, rfl⟩ | ⟨h1, h2, h3⟩
        · exact ⟨_, hz, trivial, fun _ => trivial, hρ _ hzs⟩
        · exact absurd hl (Nat.lt_irrefl 0)
        · exact ⟨b, h3, hl, id, hρ q (by rw [h3]; rfl)⟩
      obtain ⟨b0, g1, g2, g3, g4⟩ := live q b hq (Blk.own_live hb)
      obtain ⟨d0, g5, g6, _, g7⟩ := live r d hr hd
      rw [g4, g7]
      exact hs.mem.ne q r b0 d0 g1 g5 (g3 hb) g6 hne
  have := hs.move hmem hsome hρ
  rw [hm'] at this
  exact k ρ' a w this
/-! ### The same, where nothing is known of how long the list is -/
def accB (e : TypeId) (sz n c : Nat) (el : Nat → List Value) : Blk := match n with
  | 0 => .ro sz 0 el
  | n + 1 => .arr e sz (n + 1) el ((c - (n + 1)) * sz)
theorem accB_pos {e : TypeId} {sz n c : Nat} {el : Nat → List Value} (h : 0 < n) : accB e sz n c el = .arr e sz n el ((c - n) * sz) := by
  cases n with
  | zero => omega
  | succ n => rfl
theorem GO.moveAny (hT : Tab.fine P T) {ops : Array Oper} {rest : List Oper} {o : Oper} {y : Operand} {d : Nat} {t0 : Nat → TV} {m : Mem} {a : AV} (hg : o.guard = none) (hop : o.op = .move y ∨ o.op = .assign y) (hd : o.dst = some d) (hdN : Nat.blt d E.N = true) (hy : evT t0 y = .v a)
    (k : GO P E ops K rest ⟨up t0 d (.v a), m⟩) : GO P E ops K (o :: rest) ⟨t0, m⟩ := by
  have hev : evOp T d (evT t0) m o.op = .ok (.v a) m [] := by
    rcases hop with h | h <;> (rw [h]; simp only [evOp, forceTV_eq, hy])
  have hstep : stepE T E.N ops t0 m o = .ok (.v a) m [] := by
    unfold stepE
    have : dstOk E.N o.dst = true := by rw [hd]; exact hdN
    rw [this, hg, hd]
    exact hev
  exact GO.step (st := ⟨t0, m⟩) hT hstep trivial (by rw [hd]; exact k)
theorem G.newNil {c : Code} {t0 : Nat → TV} {m : Mem} (x sz : Nat) (el : Nat → List Value) (hx : m x = none) (k : G P E K c ⟨t0, up m x (some (.ro sz 0 el))⟩) : G P E K c ⟨t0, m⟩ :=
  fun ρ a w hs => k ρ a w (hs.move (hs.mem.newNil (x := x) (sz := sz) (el := el) hx) (fun y hy => isSome_up y hy) (fun _ _ => rfl))
theorem GO.appendAccB {ops : Array Oper} {rest : List Oper} {o : Oper} {s y : Operand} {t e size bytes d n c : Nat} {z : Value} {t0 : Nat → TV} {m : Mem} {el : Nat → List Value} {q c1 : Nat} {ty1 : TypeId} (vs : List Value) (tl : List (Nat × TV)) (ml : List (Nat × Blk)) (hp : ApT P t e size bytes z) (hg : o.guard = none) (hop : o.op = .call { callee := .builtin .append, args := #[s, y], argTypes := #[t, t] })
    (hd : o.dst = some d) (hdN : Nat.blt d E.N = true) (hdb : Nat.blt d 1000 = true) (hs : evT t0 s = .v (.c (accV d size n c))) (hx : m d = some (accB e size n c el))
    (hy : evT t0 y = .v (.c (.slc q 0 size 1 c1))) (hq : m q = some (.var ty1 (vs.map .k))) (hv : vs.length = size) (h1 : ∀ u ∈ vs, u.oneCell' = true)
    (hle : St.le E (St.of tl ml) ⟨t0, m⟩) (hfr : ∀ z b, (St.of tl ml).m z = some b → m z = some b ∧ z ≠ d) (hlen : ∀ k, k < n → (el k).length = size) (b1 : n + 1 ≤ maxLen) (b2 : (n + 1) * bytes ≤ 140737488355328)
    (k : ∀ c', n + 1 ≤ c' → GO P E ops K rest ⟨up (St.of tl ml).t d (.v (.c (.slc d 0 size (n + 1) c'))), up (St.of tl ml).m d (some (.arr e size (n + 1) (elN el n vs) ((c' - (n + 1)) * size)))⟩) : GO P E ops K (o :: rest) ⟨t0, m⟩ :=
  GO.appendAcc vs tl ml hp hg hop hd hdN hdb hs (fun h0 => by rw [hx, accB_pos h0]) hy hq hv h1 hle hfr hlen b1 b2 k
end
end Go.Sx
/- The symbolic executor, part AE: make of a row, lists that grow from an empty row on. Generic over P. -/
set_option linter.unusedVariables false
set_option linter.unusedSimpArgs false
namespace Go.Sx
open Go.RowKit
section
variable {P : Program} {E : Env} {K : Exit → St → Prop} {T : Tab}
def accVA (A0 : Option Addr) (d sz n c : Nat) : AC := match n with
  | 0 => .k (.slice A0 0 0)
  | n + 1 => .slc d 0 sz (n + 1) c
theorem GO.appendAccA {A0 : Option Addr} {ops : Array Oper} {rest : List Oper} {o : Oper} {s y : Operand} {t e size bytes d n c : Nat} {z : Value} {t0 : Nat → TV} {m : Mem} {el : Nat → List Value} {q c1 : Nat} {ty1 : TypeId} (vs : List Value) (tl : List (Nat × TV)) (ml : List (Nat × Blk)) (hp : ApT P t e size bytes z) (hg : o.guard = none) (hop : o.op = .call { callee := .builtin .append, args := #[s, y], argTypes := #[t, t] })
    (hd : o.dst = some d) (hdN : Nat.blt d E.N = true) (hdb : Nat.blt d 1000 = true) (hs : evT t0 s = .v (.c (accVA A0 d size n c))) (hx : 0 < n → m d = some (.arr e size n el ((c - n) * size)))
    (hy : evT t0 y = .v (.c (.slc q 0 size 1 c1))) (hq : m q = some (.var ty1 (vs.map .k))) (hv : vs.length = size) (h1 : ∀ u ∈ vs, u.oneCell' = true)
    (hle : St.le E (St.of tl ml) ⟨t0, m⟩) (hfr : ∀ z b, (St.of tl ml).m z = some b → m z = some b ∧ z ≠ d) (hlen : ∀ k, k < n → (el k).length = size) (b1 : n + 1 ≤ maxLen) (b2 : (n + 1) * bytes ≤ 140737488355328)
    (k : ∀ c', n + 1 ≤ c' → GO P E ops K rest ⟨up (St.of tl ml).t d (.v (.c (.slc d 0 size (n + 1) c'))), up (St.of tl ml).m d (some (.arr e size (n + 1) (elN el n vs) ((c' - (n + 1)) * size)))⟩) : GO P E ops K (o :: rest) ⟨t0, m⟩ := by
  have hfree : (St.of tl ml).m d = none := by
    cases h : (St.of tl ml).m d with
    | none => rfl
    | some b => exact absurd rfl (hfr d b h).2
  cases n with
  | succ n => exact GO.appendOwn vs tl ml hp hg hop hd hdN hdb hdb hs (hx (Nat.succ_pos n)) (Nat.le_refl _) hy hq hv h1 hle hfr hfree hlen b1 b2 k
  | zero =>
    intro ρ a w hsat
    have hs0 := hle ρ a w hsat
    have es : a.eval s = .slice A0 0 0 := by have := hsat.eval s; simp only [St.ev, hs] at this; exact this.2
    have ex := hsat.eval y
    simp only [St.ev, hy] at ex
    obtain ⟨B, cc, e3, hr⟩ := (RowOf.var (P := P) (E := E) (c := c1) (n := 1) (sz := size) hq (by omega)) ρ w hsat.mem ex.1
    have hone : ∀ i, i < 1 → elN el 0 vs i = vs := fun i hi => by
      have : i = 0 := by omega
      subst this
      exact elN_eq
    have hr' : RdRow w B 1 size (elN el 0 vs) := hr.congr fun i hi => by
      rw [hone i hi]
      have : i = 0 := by omega
      subst this
      simp [← hv]
    have ex : a.eval y = .slice B 1 cc := ex.2.trans e3
    unfold wpList
    rw [if_pos (by simp [Region.wanted, hg])]
    refine .inl ?_
    unfold Oper.wp
    rcases append_new (ty := o.type) hp (A := A0) (c := cc) hr' (fun i hi u hu => h1 u (by rw [hone i hi] at hu; exact hu)) (by omega) (by omega) with ⟨h0, _⟩ | ⟨h0, v', w', hrun, r1, r2⟩
    · cases h0
    · have : (execOp a.eval o).run P w = .ok (.value v') w' := by
        simp [execOp, hop, resolve, invoke, builtin, es, ex, hrun, Result.andThen]
      rw [this]
      obtain ⟨ρ', c', h2, h3, h4, h5⟩ := hs0.mem.newOwn hfree (by simpa [Nat.blt_eq] using hdb) (fun i hi => by rw [hone i hi]; exact hv) h0 r1 r2
      refine k c' h2 ρ' _ w' ?_
      rw [hd]
      refine (hs0.move h4 (fun y hy => isSome_up y hy) h3).put (by simpa [Nat.blt_eq] using hdN) ⟨?_, h5⟩
      show (up (St.of tl ml).m d _ d).isSome = true
      rw [up_same]; rfl
theorem GO.appendAccAB {A0 : Option Addr} {ops : Array Oper} {rest : List Oper} {o : Oper} {s y : Operand} {t e size bytes d n c : Nat} {z : Value} {t0 : Nat → TV} {m : Mem} {el : Nat → List Value} {q c1 : Nat} {ty1 : TypeId} (vs : List Value) (tl : List (Nat × TV)) (ml : List (Nat × Blk)) (hp : ApT P t e size bytes z) (hg : o.guard = none) (hop : o.op = .call { callee := .builtin .append, args := #[s, y], argTypes := #[t, t] })
    (hd : o.dst = some d) (hdN : Nat.blt d E.N = true) (hdb : Nat.blt d 1000 = true) (hs : evT t0 s = .v (.c (accVA A0 d size n c))) (hx : m d = some (accB e size n c el))
    (hy : evT t0 y = .v (.c (.slc q 0 size 1 c1))) (hq : m q = some (.var ty1 (vs.map .k))) (hv : vs.length = size) (h1 : ∀ u ∈ vs, u.oneCell' = true)
    (hle : St.le E (St.of tl ml) ⟨t0, m⟩) (hfr : ∀ z b, (St.of tl ml).m z = some b → m z = some b ∧ z ≠ d) (hlen : ∀ k, k < n → (el k).length = size) (b1 : n + 1 ≤ maxLen) (b2 : (n + 1) * bytes ≤ 140737488355328)
    (k : ∀ c', n + 1 ≤ c' → GO P E ops K rest ⟨up (St.of tl ml).t d (.v (.c (.slc d 0 size (n + 1) c'))), up (St.of tl ml).m d (some (.arr e size (n + 1) (elN el n vs) ((c' - (n + 1)) * size)))⟩) : GO P E ops K (o :: rest) ⟨t0, m⟩ :=
  GO.appendAccA vs tl ml hp hg hop hd hdN hdb hs (fun h0 => by rw [hx, accB_pos h0]) hy hq hv h1 hle hfr hlen b1 b2 k
/-- make of n elements of one cell each. -/
theorem GO.make1 {ops : Array Oper} {rest : List Oper} {o : Oper} {l c : Operand} {t e bytes d : Nat} {z : Value} {t0 : Nat → TV} {m : Mem} {kl kc : IntKind} (n : Nat) (hp : ApT P t e 1 bytes z) (hz1 : z.cells = #[z]) (hg : o.guard = none) (hop : o.op = .makeSlice t l c)
    (hd : o.dst = some d) (hdN : Nat.blt d E.N = true) (hdb : Nat.blt d 1000 = true) (hfree : m d = none) (hl : evT t0 l = .v (.c (.k (.int kl (n : Int))))) (hc : evT t0 c = .v (.c (.k (.int kc (n : Int))))) (b1 : n ≤ maxLen) (b2 : bytes * n ≤ 281474976710656)
    (k0 : n = 0 → ∀ A, (∀ a : Addr, A = some a → a.spot = none) → GO P E ops K rest ⟨up t0 d (.v (.c (.k (.slice A 0 0)))), m⟩)
    (k1 : 0 < n → ∀ c, n ≤ c → GO P E ops K rest ⟨up t0 d (.v (.c (.slc d 0 1 n c))), up m d (some (.arr e 1 n (fun _ => [z]) ((c - n) * 1)))⟩) : GO P E ops K (o :: rest) ⟨t0, m⟩ := by
  intro ρ a w hsat
  obtain ⟨i, hi, hz, hs, hb⟩ := hp.info
  have el : a.eval l = .int kl (n : Int) := by have := hsat.eval l; simp only [St.ev, hl] at this; exact this.2
  have ec : a.eval c = .int kc (n : Int) := by have := hsat.eval c; simp only [St.ev, hc] at this; exact this.2
  obtain ⟨w', hrun, r1, r2⟩ := run_make_full (P := P) w w.heap.size t e i z 1 hp.ht hi hz hs kl kc n (by rw [hb]; exact b2) b1 (Nat.le_refl _)
  have hcells : (madeCells z.cells (n * 1)).toList = flatE (fun _ => [z]) 0 n := by
    rw [hz1, toList_madeCells_one, Nat.mul_one]
    have : ∀ (k i : Nat), flatE (fun _ => [z]) i k = List.replicate k z := by
      intro k
      induction k with
      | zero => intro i; rfl
      | succ k ih => intro i; rw [flatE, ih]; rfl
    exact (this n 0).symm
  rw [hcells] at r1
  unfold wpList
  rw [if_pos (by simp [Region.wanted, hg])]
  refine .inl ?_
  unfold Oper.wp
  have : (execOp a.eval o).run P w = .ok (.value (.slice (some ⟨w.heap.size, 0, none⟩) n n)) w' := by
    simp [execOp, hop, el, ec, hrun, Result.andThen]
  rw [this]
  by_cases h0 : n = 0
  · refine k0 h0 (some ⟨w.heap.size, 0, none⟩) (fun a ha => by injection ha with ha; subst ha; rfl) ρ _ w' ?_
    rw [hd]
    have hbl : Below w.heap.size w w' := ⟨r2.os, r2.tape, r2.output, r2.size, fun k hk => r2.block k hk (by simp)⟩
    refine (hsat.below hbl).put (by simpa [Nat.blt_eq] using hdN) ⟨trivial, ?_⟩
    subst h0
    rfl
  · obtain ⟨ρ', c', h2, h3, h4, h5⟩ := hsat.mem.newOwn hfree (by simpa [Nat.blt_eq] using hdb) (el := fun _ => [z]) (fun i hi => rfl) (by omega) r1 r2
    refine k1 (by omega) c' h2 ρ' _ w' ?_
    rw [hd]
    refine (hsat.move h4 (fun y hy => isSome_up y hy) h3).put (by simpa [Nat.blt_eq] using hdN) ⟨?_, h5⟩
    show (up m d _ d).isSome = true
    rw [up_same]; rfl
end
end Go.Sx
/- The symbolic executor, part AF: maps from numbers to true (sets of numbers): made, asked, grown. Generic over P. -/
set_option linter.unusedVariables false
set_option linter.unusedSimpArgs false
namespace Go.Sx
open Go.RowKit
structure MpT (P : Program) (t kt et : TypeId) : Prop where
  hm : P.underlying t = some (.map kt et)
  hk : P.underlying kt = some (.int .i64)
  he : ∀ w : World, (zeroValue et).run P w = .ok (.bool false) w
/-- A map that holds true under just the numbers of a set. -/
def ISet (S : Int → Bool) (o : Obj) : Prop := ∃ es clock, o = .map es clock ∧ (∀ e ∈ es.toList, ∃ n, e.key = .int .i64 n ∧ e.val = .bool true ∧ S n = true) ∧ ∀ n, S n = true → ∃ e ∈ es.toList, e.key = .int .i64 n
theorem findNow_set (n : Int) : ∀ (l : List MapEntry) (i : Nat), (∀ e ∈ l, ∃ m, e.key = .int .i64 m ∧ e.val = .bool true) →
    (Instr.findNow (.int .i64) (.int .i64 n) l i = some none ∧ ∀ e ∈ l, e.key ≠ .int .i64 n) ∨ ∃ j, Instr.findNow (.int .i64) (.int .i64 n) l i = some (some (j, .bool true)) ∧ ∃ e ∈ l, e.key = .int .i64 n := by
  intro l
  induction l with
  | nil => intro i _; exact .inl ⟨rfl, fun e h => by cases h⟩
  | cons a r ih =>
    intro i h
    obtain ⟨m, h1, h2⟩ := h a (.head _)
    by_cases e : n = m
    · subst e
      refine .inr ⟨i, ?_, a, .head _, h1⟩
      simp [Instr.findNow, Instr.sameNow, h1, h2]
    · have hn : Instr.findNow (.int .i64) (.int .i64 n) (a :: r) i = Instr.findNow (.int .i64) (.int .i64 n) r (i + 1) := by
        have h3 : Instr.sameNow (.int .i64) (.int .i64 n) a.key = some false := by rw [h1]; simp [Instr.sameNow, e]
        rw [Instr.findNow, h3]
      rw [hn]
      rcases ih (i + 1) fun x hx => h x (.tail _ hx) with ⟨k1, k2⟩ | ⟨j, k1, x, hx, k2⟩
      · refine .inl ⟨k1, fun x hx => ?_⟩
        cases hx with
        | head => rw [h1]; intro hc; injection hc with _ hc; exact e hc.symm
        | tail _ hx => exact k2 x hx
      · exact .inr ⟨j, k1, x, .tail _ hx, k2⟩
section
variable {P : Program} {t kt et : TypeId} {w : World} {r : Nat} {S : Int → Bool} {o : Obj}
theorem run_lookup_set (hp : MpT P t kt et) (hb : w.heap[r]? = some o) (ho : ISet S o) (n : Int) : (Instr.lookup t (.map (some r)) (.int .i64 n) false).run P w = .ok (.bool (S n)) w := by
  obtain ⟨es, clock, rfl, h1, h2⟩ := ho
  have hc : ∀ em, (Instr.checkKey em 10000 kt (.int .i64 n)).run P w = .ok () w := fun em => MapKept.run_checkKey hp.hk (by trivial) em 9999
  rcases findNow_set n es.toList 0 (fun e he => by obtain ⟨m, a, b, _⟩ := h1 e he; exact ⟨m, a, b⟩) with ⟨k1, k2⟩ | ⟨j, k1, e, he, k2⟩
  · have hS : S n = false := by
      cases hs : S n with
      | false => rfl
      | true =>
        obtain ⟨e, he, hk⟩ := h2 n hs
        exact absurd hk (k2 e he)
    rw [hS]
    simp [Instr.lookup, run_underlying hp.hm, MapKept.run_getObj_map hb, hc, MapKept.run_findKey hp.hk k1, hp.he, Result.andThen]
  · have hS : S n = true := by
      obtain ⟨m, a, _, b⟩ := h1 e he
      rw [k2] at a
      injection a with _ a
      rw [a]; exact b
    rw [hS]
    simp [Instr.lookup, run_underlying hp.hm, MapKept.run_getObj_map hb, hc, MapKept.run_findKey hp.hk k1, Result.andThen]
theorem run_update_set (hp : MpT P t kt et) (hb : w.heap[r]? = some o) (ho : ISet S o) {n : Int} (hn : S n = false) {S2 : Int → Bool} (hS : ∀ q, S2 q = (S q || (q == n))) :
    ∃ o', (Instr.mapUpdate t (.map (some r)) (.int .i64 n) (.bool true)).run P w = .ok () { w with heap := w.heap.setIfInBounds r o' } ∧ ISet S2 o' := by
  obtain ⟨es, clock, rfl, h1, h2⟩ := ho
  have hc : ∀ em, (Instr.checkKey em 10000 kt (.int .i64 n)).run P w = .ok () w := fun em => MapKept.run_checkKey hp.hk (by trivial) em 9999
  rcases findNow_set n es.toList 0 (fun e he => by obtain ⟨m, a, b, _⟩ := h1 e he; exact ⟨m, a, b⟩) with ⟨k1, k2⟩ | ⟨j, k1, e, he, k2⟩
  · refine ⟨.map (es.push ⟨.int .i64 n, .bool true, clock⟩) (clock + 1), ?_, _, _, rfl, fun e he => ?_, fun q hq => ?_⟩
    · simp [Instr.mapUpdate, run_underlying hp.hm, MapKept.run_getObj_map hb, hc, MapKept.run_findKey hp.hk k1, MapKept.run_setObj_map _ hb, Result.andThen]
    · simp only [Array.toList_push, List.mem_append, List.mem_singleton] at he
      rcases he with he | rfl
      · obtain ⟨m, a, b, c⟩ := h1 e he
        exact ⟨m, a, b, by rw [hS, c]; rfl⟩
      · exact ⟨n, rfl, rfl, by rw [hS]; simp⟩
    · rw [hS, Bool.or_eq_true] at hq
      simp only [Array.toList_push, List.mem_append, List.mem_singleton]
      rcases hq with hq | hq
      · obtain ⟨e, he, hk⟩ := h2 q hq
        exact ⟨e, .inl he, hk⟩
      · simp only [beq_iff_eq] at hq
        exact ⟨_, .inr rfl, by rw [hq]⟩
  · obtain ⟨m, a, _, b⟩ := h1 e he
    rw [k2] at a
    injection a with _ a
    rw [← a, hn] at b
    cases b
end
section
variable {P : Program} {E : Env} {K : Exit → St → Prop} {T : Tab}
theorem Sat.mapAt {ρ : Val} {m : Mem} {w : World} (h : SatM E ρ m w) {x : Nat} {Q : Obj → Prop} (hx : m x = some (.obj Q)) : ∃ o, w.heap[(ρ x).1]? = some o ∧ Q o := (h.ok x _ hx).2.2
theorem GO.makeMap {ops : Array Oper} {rest : List Oper} {o : Oper} {t d : Nat} {t0 : Nat → TV} {m : Mem} (S : Int → Bool) (hS : ∀ n, S n = false) (hg : o.guard = none) (hop : o.op = .makeMap t none) (hd : o.dst = some d) (hdN : Nat.blt d E.N = true) (hx : m d = none) (hxb : Nat.blt d 1000 = true)
    (k : GO P E ops K rest ⟨up t0 d (.v (.c (.mp d))), up m d (some (.obj (ISet S)))⟩) : GO P E ops K (o :: rest) ⟨t0, m⟩ := by
  intro ρ a w hs
  have hrun : (execOp a.eval o).run P w = .ok (.value (.map (some w.heap.size))) (w.alloc (.map #[] 0)) := by
    simp [execOp, hop, Instr.makeMap]
  unfold wpList
  rw [if_pos (by simp [Region.wanted, hg])]
  refine .inl ?_
  have hxb : d < 1000 := by simpa [Nat.blt_eq] using hxb
  refine Snd.go hs (fun n hn => by rw [hd] at hn; injection hn with hn; subst hn; simpa [Nat.blt_eq] using hdN) (tv := .v (.c (.mp d)))
    (Snd.new hx (hs.mem.alloc hx hxb (.obj (ISet S)) (.map #[] 0) fun ρ' h1 h2 => ⟨by rw [h2], .inl (by rw [h2]; exact hs.mem.fr.size), .map #[] 0, by rw [h2]; exact heap_alloc_new _ _, #[], 0, rfl, fun e he => by simp at he, fun n hn => by rw [hS] at hn; cases hn⟩) hrun ⟨by simp [AV.ok, AC.ok, up_same], by simp [AV.conc, AC.conc, up_same]⟩) fun ρ' a' w' hs' => k ρ' a' w' ?_
  rw [hd] at hs'
  exact hs'
theorem GO.lookupG {ops : Array Oper} {rest : List Oper} {o : Oper} {t kt et j : Nat} {y i : Operand} {want cb : Bool} {t0 : Nat → TV} {m : Mem} (x : Nat) (S : Int → Bool) (n : Int) (hp : MpT P t kt et) (hg : o.guard = some (j, want)) (hb : guardB ops t0 j want = some cb) (hop : o.op = .lookup t y i false)
    (hob : AllP (stripObs t0 j want cb (slotsOf o.op.operands.toList))) (hy : evG t0 j want (slotsOf o.op.operands.toList) y = .v (.c (.mp x))) (hi : evG t0 j want (slotsOf o.op.operands.toList) i = .v (.c (.k (.int .i64 n)))) (hx : m x = some (.obj (ISet S))) (hd : dstOk E.N o.dst = true)
    (k : GO P E ops K rest ⟨Sx.putT t0 o.dst (.grd j want cb (.c (.k (.bool (S n))))), m⟩) : GO P E ops K (o :: rest) ⟨t0, m⟩ := by
  refine GO.steps (tv := .grd j want cb (.c (.k (.bool (S n))))) (ms := []) ?_ k
  intro st hle ρ a w hs Kc Q hk
  have hs' := hs.weakT hle.t
  have hw := wanted_cond (ops := ops) hs' hg hb
  rw [hw]
  cases hcb : cb with
  | true =>
    subst hcb
    rw [if_pos rfl]
    have hev := fun y => evG_rep hs' hob rfl y
    have e1 : a.eval y = .map (some (ρ x).1) := by have := hev y; rw [hy] at this; exact this.2
    have e2 : a.eval i = .int .i64 n := by have := hev i; rw [hi] at this; exact this.2
    have hx2 : st.m x = some (.obj (ISet S)) := by
      rcases hle.m x with h | h
      · rw [show (St.mk t0 m).m x = m x from rfl, hx] at h; cases h
      · exact h.trans hx
    obtain ⟨ob, h1, h2⟩ := Sat.mapAt hs.mem hx2
    have hrun : (execOp a.eval o).run P w = .ok (.value (.bool (S n))) w := by
      simp [execOp, hop, e1, e2, run_lookup_set hp h1 h2 n, Result.andThen]
    exact Snd.go hs (dstOk_lt hd) (tv := .grd j want true (.c (.k (.bool (S n))))) (Snd.here hs.mem (v := .bool (S n)) hrun ⟨fun _ => ⟨trivial, rfl⟩, fun hf => by cases hf⟩) fun ρ' a' w' hs'' => hk ρ' a' w' hs''
  | false =>
    subst hcb
    rw [if_neg (by simp)]
    exact hk ρ _ w (hs.putT (dstOk_lt hd) ⟨fun hf => (by cases hf), fun _ => rfl⟩)
theorem Steps.mapNew {ops : Array Oper} {o : Oper} {t kt et : Nat} {y i : Operand} {C : St} (x : Nat) (S S2 : Int → Bool) (n : Int) (hp : MpT P t kt et) (hg : o.guard = none) (hop : o.op = .mapUpdate t y i (.const (.bool true))) (hd : o.dst = none)
    (hy : evT C.t y = .v (.c (.mp x))) (hi : evT C.t i = .v (.c (.k (.int .i64 n)))) (hx : C.m x = some (.obj (ISet S))) (hn : S n = false) (hS : ∀ q, S2 q = (S q || (q == n))) : Steps P E ops o C .unk [(x, .obj (ISet S2))] := by
  intro st hle ρ a w hs Kc Q hk
  have hs' := hs.weakT hle.t
  rw [if_pos (by simp [Region.wanted, hg])]
  have e1 : a.eval y = .map (some (ρ x).1) := by have := hs'.eval y; rw [show (St.mk C.t st.m).ev y = .v (.c (.mp x)) from hy] at this; exact this.2
  have e2 : a.eval i = .int .i64 n := by have := hs'.eval i; rw [show (St.mk C.t st.m).ev i = .v (.c (.k (.int .i64 n))) from hi] at this; exact this.2
  have hx2 : st.m x = some (.obj (ISet S)) := by
    rcases hle.m x with h | h
    · rw [hx] at h; cases h
    · exact h.trans hx
  obtain ⟨ob, h1, h2⟩ := Sat.mapAt hs.mem hx2
  obtain ⟨o', h3, h4⟩ := run_update_set hp h1 h2 hn hS
  have hrun : (execOp a.eval o).run P w = .ok .skip { w with heap := w.heap.setIfInBounds (ρ x).1 o' } := by
    have e3 : a.eval (.const (.bool true)) = .bool true := rfl
    simp [execOp, hop, e1, e2, e3, h3, Result.andThen]
  have hk0 := hs.mem.ok x _ hx2
  have hlt := lt_of_heap h1
  have hmem : SatM E ρ (up st.m x (some (.obj (ISet S2)))) { w with heap := w.heap.setIfInBounds (ρ x).1 o' } := by
    refine hs.mem.put hx2 trivial trivial ⟨hs.mem.fr.os, hs.mem.fr.tape, hs.mem.fr.output, by simpa using hs.mem.fr.size, fun g hg1 hg2 => ?_⟩ (by simp) (fun g hg => ?_) ⟨hk0.1, hk0.2.1, o', ?_, h4⟩
    · have hne : (ρ x).1 ≠ g := by
        rcases mem_bor hk0.2.1 with h | h
        · omega
        · exact fun e => hg2 (e ▸ h)
      simp only [Array.getElem?_setIfInBounds_ne hne]
      exact hs.mem.fr.block g hg1 hg2
    · simp only [Array.getElem?_setIfInBounds_ne (Ne.symm hg)]
    · simp [Array.getElem?_setIfInBounds, hlt]
  have hsome : ∀ z, (st.m z).isSome = true → (up st.m x (some (.obj (ISet S2))) z).isSome = true := fun z hz => isSome_up z hz
  unfold Oper.wp
  rw [hrun]
  refine hk ρ _ _ ?_
  rw [upm_one]
  exact (hs.move hmem hsome fun _ _ => rfl).putT (fun q hq => by rw [hd] at hq; cases hq) (tv := .unk) trivial
theorem GD.mapNew {l : List Oper} {cls : List Nat} {X : List (Nat × Nat)} {base : St} {recs : List DR} {rest : List Oper} {tt : Nat → TV} {m : Mem} {o : Oper} {t kt et : Nat} {y ix : Operand} (x : Nat) (S S2 : Int → Bool) (n : Int) (i : Nat) (hi : recs.length = i) (hp : MpT P t kt et) (hg : o.guard = none) (hop : o.op = .mapUpdate t y ix (.const (.bool true))) (hd : o.dst = none)
    (hy : evT (canF l cls X base i recs).t y = .v (.c (.mp x))) (hix : evT (canF l cls X base i recs).t ix = .v (.c (.k (.int .i64 n)))) (hx : (canF l cls X base i recs).m x = some (.obj (ISet S))) (hn : S n = false) (hS : ∀ q, S2 q = (S q || (q == n))) (hw : Wok X i o [(x, .obj (ISet S2))] = true)
    (k : GD P E K l cls X base (⟨o, .unk, [(x, .obj (ISet S2))]⟩ :: recs) rest (Sx.putT tt o.dst .unk) (upm m [(x, .obj (ISet S2))])) : GD P E K l cls X base recs (o :: rest) tt m := by
  rw [canF_eq hi] at hy hix hx
  exact GD.step (Steps.mapNew x S S2 n hp hg hop hd hy hix hx hn hS) (by rw [hi]; exact hw) k
end
end Go.Sx
/- The symbolic executor, part AG: rows of ours that calls make and turn (slices.Clone, slices.Delete), a row's own tail moved down, its rest cleared. Generic over P. -/
set_option linter.unusedVariables false
set_option linter.unusedSimpArgs false
namespace Go.Sx
open Go.RowKit
/-- A call answers with a row of its own. -/
def OwnNew (w w' : World) (e : Ending) (ty : TypeId) (n sz : Nat) (el : Nat → List Value) : Prop := ∃ b c, e = .returned (.slice (some ⟨b, 0, none⟩) n c) ∧ n ≤ c ∧ w.heap.size ≤ b ∧ OwnAt w' b ty n sz el 0
def rowMo (m : Mem) (x : Nat) (ty : TypeId) (n sz : Nat) (el : Nat → List Value) : Mem := up (up m x (some (.arr ty sz n el 0))) (x + 50) (some (.ro 0 0 fun _ => []))
section
variable {P : Program} {E : Env} {K : Exit → St → Prop} {T : Tab}
theorem SatM.addOwnRow {ρ : Val} {m : Mem} {w w' : World} (h : SatM E ρ m w) (hbl : Below w.heap.size w w') {x n sz b c : Nat} {ty : TypeId} {el : Nat → List Value} (hx : m x = none) (hx2 : m (x + 50) = none) (hxb : Nat.blt (x + 50) 1000 = true) (hge : w.heap.size ≤ b) (ho : OwnAt w' b ty n sz el 0) (hc : n ≤ c) :
    ∃ ρ' : Val, (∀ y, (m y).isSome = true → ρ' y = ρ y) ∧ SatM E ρ' (rowMo m x ty n sz el) w' ∧ AC.ok ρ' (rowMo m x ty n sz el) (.row x n E.w0.heap.size) ∧ AC.conc ρ' (.row x n E.w0.heap.size) = .slice (some ⟨b, 0, none⟩) n c := by
  have hxb : x + 50 < 1000 := by simpa [Nat.blt_eq] using hxb
  obtain ⟨ρ', hρ'⟩ : ∃ ρ' : Val, ρ' = up (up ρ x (b, 0)) (x + 50) (c, 1) := ⟨_, rfl⟩
  have e1 : ρ' x = (b, 0) := by rw [hρ', up_other _ _ (by omega), up_same]
  have e2 : ρ' (x + 50) = (c, 1) := by rw [hρ', up_same]
  have e3 : ∀ y, y ≠ x → y ≠ x + 50 → ρ' y = ρ y := fun y h1 h2 => by rw [hρ', up_other _ _ h2, up_other _ _ h1]
  have hρ : ∀ y, (m y).isSome = true → ρ' y = ρ y := fun y hy => e3 y (fun e => by subst e; simp [hx] at hy) (fun e => by subst e; simp [hx2] at hy)
  have hm : ∀ y d, rowMo m x ty n sz el y = some d → (y = x + 50 ∧ d = .ro 0 0 fun _ => []) ∨ (y = x ∧ d = .arr ty sz n el 0) ∨ (y ≠ x ∧ y ≠ x + 50 ∧ m y = some d) := by
    intro y d hy
    unfold rowMo at hy
    by_cases h1 : y = x + 50
    · subst h1; rw [up_same] at hy; injection hy with hy; exact .inl ⟨rfl, hy.symm⟩
    · rw [up_other _ _ h1] at hy
      by_cases h2 : y = x
      · subst h2; rw [up_same] at hy; injection hy with hy; exact .inr (.inl ⟨rfl, hy.symm⟩)
      · rw [up_other _ _ h2] at hy; exact .inr (.inr ⟨h2, h1, hy⟩)
  have hsome : ∀ y, (m y).isSome = true → (rowMo m x ty n sz el y).isSome = true := fun y hy => isSome_up y (isSome_up y hy)
  have h' := h.below hbl
  refine ⟨ρ', hρ, ⟨h'.fr, fun r hr => ?_, fun y d hy => ?_, fun y z d f hy hz hd hf hne => ?_⟩, ⟨?_, ?_, fun h0 => ⟨by rw [e2]; exact Nat.one_ne_zero, by rw [e1]; exact Nat.le_trans h.fr.size hge⟩, by rw [e2]; exact hc⟩, ?_⟩
  · have := h.bo r hr
    rw [e3 _ (by omega) (by omega)]; exact this
  · rcases hm y d hy with ⟨rfl, rfl⟩ | ⟨rfl, rfl⟩ | ⟨h1, h2, h3⟩
    · intro h0; omega
    · exact ⟨by rw [e1], .inl (by rw [e1]; exact Nat.le_trans h.fr.size hge), by rw [e1]; exact ho⟩
    · have hk := h'.ok y d h3
      have ey : ρ' y = ρ y := e3 y h1 h2
      cases d with
      | var ty cells =>
        have hcm : cells.map (AC.conc ρ') = cells.map (AC.conc ρ) := List.map_congr_left fun c hm => AC.conc_mono hρ (hk.2.2.2 c hm)
        exact ⟨by rw [ey]; exact hk.1, by rw [ey]; exact hk.2.1, by rw [ey, hcm]; exact hk.2.2.1, fun c hc => AC.ok_mono hsome hρ (hk.2.2.2 c hc)⟩
      | arr ty sz n el room =>
        obtain ⟨k1, k2, a, ha, hs, he⟩ := hk
        exact ⟨by rw [ey]; exact k1, by rw [ey]; exact k2, a, by rw [ey]; exact ha, hs, he⟩
      | obj Q =>
        obtain ⟨k1, k2, a, ha, hs⟩ := hk
        exact ⟨by rw [ey]; exact k1, by rw [ey]; exact k2, a, by rw [ey]; exact ha, hs⟩
      | ro sz n el =>
        intro hn
        rw [ey]
        exact hk hn
  · rcases hm y d hy with ⟨rfl, rfl⟩ | ⟨rfl, rfl⟩ | ⟨h1, h2, h3⟩
    · exact hd.elim
    · rcases hm z f hz with ⟨rfl, rfl⟩ | ⟨rfl, rfl⟩ | ⟨k1, k2, k3⟩
      · exact absurd hf (Nat.lt_irrefl 0)
      · exact absurd rfl hne
      · have := h.lt' k3 hf
        rw [e1, e3 z k1 k2]
        show b ≠ _
        omega
    · rcases hm z f hz with ⟨rfl, rfl⟩ | ⟨rfl, rfl⟩ | ⟨k1, k2, k3⟩
      · exact absurd hf (Nat.lt_irrefl 0)
      · have := h.lt h3 hd
        rw [e1, e3 y h1 h2]
        show _ ≠ b
        omega
      · rw [e3 y h1 h2, e3 z k1 k2]
        exact h.ne y z d f h3 k3 hd hf hne
  · unfold rowMo
    rw [up_other _ _ (by omega), up_same]; rfl
  · unfold rowMo
    rw [up_same]; rfl
  · simp [AC.conc, rowAd, e1, e2]
/-- A part of a row of ours that a call has made can be read. -/
theorem SatM.rowA {ρ : Val} {m : Mem} {w : World} (h : SatM E ρ m w) {x n sz n2 g room : Nat} {ty : TypeId} {el : Nat → List Value} (hx : m x = some (.arr ty sz n2 el room)) (ho : AC.ok ρ m (.row x n g)) (hn : n ≤ n2) : RdRow w (rowAd ρ x) n sz el := by
  intro h0
  obtain ⟨h1, _, a, ha, _, he⟩ := h.ok x _ hx
  exact ⟨(ρ x).1, (ρ x).2, if_neg (ho.2.2.1 h0).1, lt_of_heap ha, fun i hi => ⟨(he i (by omega)).1, fun j hj => by rw [h1, Nat.zero_add, cell_of_heap ha]; exact (he i (by omega)).2 j hj⟩⟩
theorem SatM.ownA {ρ : Val} {m : Mem} {w : World} (h : SatM E ρ m w) {x n sz room : Nat} {ty : TypeId} {el : Nat → List Value} (hx : m x = some (.arr ty sz n el room)) : OwnAt w (ρ x).1 ty n sz el 0 := by
  obtain ⟨_, _, a, ha, hs, he⟩ := h.ok x _ hx
  exact ⟨a, ha, by omega, he⟩
theorem SatM.rowAd {ρ : Val} {m : Mem} {w : World} (h : SatM E ρ m w) {x n sz n2 g room : Nat} {ty : TypeId} {el : Nat → List Value} (hx : m x = some (.arr ty sz n2 el room)) (ho : AC.ok ρ m (.row x n g)) (h0 : 0 < n) : rowAd ρ x = some ⟨(ρ x).1, 0, none⟩ := by
  have h1 := (h.ok x _ hx).1
  unfold Sx.rowAd
  rw [if_neg (ho.2.2.1 h0).1, h1]
def msO (x : Nat) (ty : TypeId) (n sz : Nat) (el : Nat → List Value) : List (Nat × Blk) := [(x + 50, .ro 0 0 fun _ => []), (x, .arr ty sz n el 0)]
theorem upm_msO (m : Mem) (x : Nat) (ty : TypeId) (n sz : Nat) (el : Nat → List Value) : upm m (msO x ty n sz el) = rowMo m x ty n sz el := by
  funext y
  simp only [upm, msO, rowMo, up, mget]
  cases Nat.beq y (x + 50) with
  | true => rfl
  | false => cases Nat.beq y x <;> rfl
theorem Steps.callOwnR {ops : Array Oper} {o : Oper} {c : Call} {f : FuncId} {avs : List AV} {caps : List Cap} {C : St} (x : Nat) (ty : TypeId) (n sz : Nat) (el : Nat → List Value) (hg : o.guard = none) (hop : o.op = .call c) (he : callE C.t c = .mk f avs caps) (hd : dstOk E.N o.dst = true) (hx : C.m x = none) (hx2 : C.m (x + 50) = none) (hxb : Nat.blt (x + 50) 1000 = true)
    (hcf : ∀ (args : Array Value) (w : World), (callFunc f args).run P w = .ok (.enter f args) w)
    (hc : ∀ m, LeM C.m m → ∀ ρ w, SatM E ρ m w → (∀ v ∈ avs, v.ok ρ m) → Calls P f (avs.map (AV.conc ρ) ++ caps.map (Cap.conc ρ)).toArray w fun e w' => OwnNew w w' e ty n sz el ∧ Below w.heap.size w w') :
    Steps P E ops o C (.v (.c (.row x n E.w0.heap.size))) (msO x ty n sz el) := by
  intro st hle ρ a w hs Kc Q hk
  have hs' := hs.weakT hle.t
  obtain ⟨hr, hok, hok2⟩ := call_run hs' hop he hcf
  rw [if_pos (by simp [Region.wanted, hg])]
  unfold Oper.wp
  rw [hr]
  refine (hc st.m hle.m ρ w hs.mem hok).mono ?_
  rintro e w' ⟨⟨b, cp, rfl, h1, h2, h3⟩, hb⟩
  have n1 : st.m x = none := by
    rw [hle.n x (by simp only [msO, mget]; cases Nat.beq x (x + 50) <;> simp)]
    exact hx
  have n2 : st.m (x + 50) = none := by
    rw [hle.n (x + 50) (by simp [msO, mget])]
    exact hx2
  obtain ⟨ρ', k1, k2, k3, k4⟩ := hs.mem.addOwnRow hb n1 n2 hxb h2 h3 h1
  refine hk ρ' _ w' ?_
  rw [upm_msO]
  exact (hs.move k2 (fun y hy => isSome_up y (isSome_up y hy)) k1).putT (dstOk_lt hd) ⟨k3, k4.symm⟩
theorem GD.callOwnR {l : List Oper} {cls : List Nat} {X : List (Nat × Nat)} {base : St} {recs : List DR} {o : Oper} {rest : List Oper} {t : Nat → TV} {m : Mem} {c : Call} {f : FuncId} {avs : List AV} {caps : List Cap} (x : Nat) (ty : TypeId) (n sz : Nat) (el : Nat → List Value) (i : Nat) (hi : recs.length = i) (hg : o.guard = none) (hop : o.op = .call c) (he : callE (canF l cls X base i recs).t c = .mk f avs caps) (hd : dstOk E.N o.dst = true)
    (hx : (canF l cls X base i recs).m x = none) (hx2 : (canF l cls X base i recs).m (x + 50) = none) (hxb : Nat.blt (x + 50) 1000 = true) (hw : Wok X i o (msO x ty n sz el) = true)
    (hcf : ∀ (args : Array Value) (w : World), (callFunc f args).run P w = .ok (.enter f args) w)
    (hc : ∀ m, LeM (canF l cls X base i recs).m m → ∀ ρ w, SatM E ρ m w → (∀ v ∈ avs, v.ok ρ m) → Calls P f (avs.map (AV.conc ρ) ++ caps.map (Cap.conc ρ)).toArray w fun e w' => OwnNew w w' e ty n sz el ∧ Below w.heap.size w w')
    (k : GD P E K l cls X base (⟨o, .v (.c (.row x n E.w0.heap.size)), msO x ty n sz el⟩ :: recs) rest (Sx.putT t o.dst (.v (.c (.row x n E.w0.heap.size)))) (upm m (msO x ty n sz el))) : GD P E K l cls X base recs (o :: rest) t m := by
  rw [canF_eq hi] at he hx hx2 hc
  exact GD.step (Steps.callOwnR x ty n sz el hg hop he hd hx hx2 hxb hcf hc) (by rw [hi]; exact hw) k
/-- A call that turns a row of ours and answers with a part of it. -/
theorem Steps.callTurnR {ops : Array Oper} {o : Oper} {c : Call} {f : FuncId} {avs : List AV} {caps : List Cap} {C : St} (x : Nat) (ty : TypeId) (n n' sz g : Nat) (el el' : Nat → List Value) (hg : o.guard = none) (hop : o.op = .call c) (he : callE C.t c = .mk f avs caps) (hd : dstOk E.N o.dst = true) (hx : C.m x = some (.arr ty sz n el 0)) (hin : .c (.row x n g) ∈ avs) (hn : n' ≤ n)
    (hcf : ∀ (args : Array Value) (w : World), (callFunc f args).run P w = .ok (.enter f args) w)
    (hc : ∀ m, LeM C.m m → ∀ ρ w, SatM E ρ m w → (∀ v ∈ avs, v.ok ρ m) → Calls P f (avs.map (AV.conc ρ) ++ caps.map (Cap.conc ρ)).toArray w fun e w' => e = .returned (AC.conc ρ (.row x n' g)) ∧ Fr w [(ρ x).1] w' ∧ OwnAt w' (ρ x).1 ty n' sz el' 0) :
    Steps P E ops o C (.v (.c (.row x n' g))) [(x, .arr ty sz n' el' 0)] := by
  intro st hle ρ a w hs Kc Q hk
  have hs' := hs.weakT hle.t
  obtain ⟨hr, hok, hok2⟩ := call_run hs' hop he hcf
  rw [if_pos (by simp [Region.wanted, hg])]
  unfold Oper.wp
  rw [hr]
  refine (hc st.m hle.m ρ w hs.mem hok).mono ?_
  rintro e w' ⟨rfl, hf, hn2⟩
  have hl : ownL C.m [⟨x, .arr ty sz n' el' 0⟩] := ⟨⟨_, hx, trivial⟩, trivial⟩
  have hm := hs.mem.turnL (ownL_le hle.m hl) (l := [⟨x, .arr ty sz n' el' 0⟩]) trivial hf ⟨hn2, trivial⟩
  have hr0 : AC.ok ρ st.m (.row x n g) := hok _ hin
  have hr1 : AC.ok ρ (turnedB st.m [⟨x, .arr ty sz n' el' 0⟩]) (.row x n' g) := by
    obtain ⟨q1, q2, q3, q4⟩ := hr0
    exact ⟨isSome_turnedB _ q1, isSome_turnedB _ q2, fun h0 => q3 (by omega), by omega⟩
  refine hk ρ _ w' ?_
  have e : upm st.m [(x, .arr ty sz n' el' 0)] = turnedB st.m [⟨x, .arr ty sz n' el' 0⟩] := upm_msB st.m [⟨x, .arr ty sz n' el' 0⟩]
  rw [e]
  exact (hs.move hm (fun y hy => isSome_turnedB y hy) (fun _ _ => rfl)).putT (dstOk_lt hd) ⟨hr1, rfl⟩
theorem GD.callTurnR {l : List Oper} {cls : List Nat} {X : List (Nat × Nat)} {base : St} {recs : List DR} {o : Oper} {rest : List Oper} {t : Nat → TV} {m : Mem} {c : Call} {f : FuncId} {avs : List AV} {caps : List Cap} (x : Nat) (ty : TypeId) (n n' sz g : Nat) (el el' : Nat → List Value) (i : Nat) (hi : recs.length = i) (hg : o.guard = none) (hop : o.op = .call c) (he : callE (canF l cls X base i recs).t c = .mk f avs caps) (hd : dstOk E.N o.dst = true)
    (hx : (canF l cls X base i recs).m x = some (.arr ty sz n el 0)) (hin : .c (.row x n g) ∈ avs) (hn : n' ≤ n) (hw : Wok X i o [(x, .arr ty sz n' el' 0)] = true)
    (hcf : ∀ (args : Array Value) (w : World), (callFunc f args).run P w = .ok (.enter f args) w)
    (hc : ∀ m, LeM (canF l cls X base i recs).m m → ∀ ρ w, SatM E ρ m w → (∀ v ∈ avs, v.ok ρ m) → Calls P f (avs.map (AV.conc ρ) ++ caps.map (Cap.conc ρ)).toArray w fun e w' => e = .returned (AC.conc ρ (.row x n' g)) ∧ Fr w [(ρ x).1] w' ∧ OwnAt w' (ρ x).1 ty n' sz el' 0)
    (k : GD P E K l cls X base (⟨o, .v (.c (.row x n' g)), [(x, .arr ty sz n' el' 0)]⟩ :: recs) rest (Sx.putT t o.dst (.v (.c (.row x n' g)))) (upm m [(x, .arr ty sz n' el' 0)])) : GD P E K l cls X base recs (o :: rest) t m := by
  rw [canF_eq hi] at he hx hc
  exact GD.step (Steps.callTurnR x ty n n' sz g el el' hg hop he hd hx hin hn hcf hc) (by rw [hi]; exact hw) k
/-! ### A function that turns a row of its caller's and answers with a part of it -/
def endBwS (T : Tab) (fn : Func) (x sz n c : Nat) (O : List Bw) : Exit → St → Prop := fun e st => (e = .ret ∨ e = .normal) ∧ (∃ r, fn.results.toList = [r] ∧ resOne T st r = .v (.c (.slc x 0 sz n c))) ∧ outAll st.m O
theorem enterBwS (hT : Tab.fine P T) {f : FuncId} {fn : Func} {c : Code} {args : Array Value} {w : World} (x g sz n cp : Nat) (C O : List Bw) (hf : P.funcs[f]? = some fn) (hb : fn.body = some c) (N : Nat) (hN : fn.ntmps = N) (avs : List AV) (l : List Inp) (hr : allRd w l) (hlo : lowI l) (hp : pairsBw C) (hfit : allBw (Bw.fit w (bwV l C) l C) C)
    (hargs : args = (avs.map (AV.conc (bwV l C))).toArray) (hl : Nat.ble avs.length N = true) (ha : allAVb l C avs) (hO : ∀ b ∈ O, ∃ c ∈ C, c.x = b.x ∧ c.g = b.g) (hOc : allBw (fun b => cellsB l C b.b) O) (hxg : ∃ c ∈ C, c.x = x ∧ c.g = g)
    (h : G P ⟨w, bwB C, N⟩ (endBwS T fn x sz n cp O) c ⟨argsT avs, bwM l C⟩) : Calls P f args w fun e w' => e = .returned (.slice (some ⟨g, 0, none⟩) n cp) ∧ Fr w (C.map (·.g)) w' ∧ rawAll (bwV l C) w' O := by
  subst hN
  refine enter (E := ⟨w, bwB C, fn.ntmps⟩) hf hb (bwV l C) (Sat.initBw hr hlo hp hfit ha hargs (Nat.le_of_ble_eq_true hl)) (h.mono fun e st hk => ⟨hk.1, fun ρ a w' hs => ?_⟩)
  obtain ⟨_, ⟨r, hr1, hr2⟩, h2⟩ := hk
  have hρ : ∀ c ∈ C, ρ c.x = (c.g, 0) := fun c hc => (hs.mem.bo (c.x, c.g) (List.mem_map.2 ⟨c, hc, rfl⟩)).1
  obtain ⟨h3, _⟩ := resOne_run hT hs hr2
  refine ⟨_, results_one hr1 h3, ?_, ?_, rawAll_of fun b hb => ?_⟩
  · obtain ⟨c, hc, rfl, rfl⟩ := hxg
    simp [AV.conc, AC.conc, hρ c hc]
  · have := hs.mem.fr
    simp only [bwB, List.map_map] at this
    exact this
  · obtain ⟨c, hc, e1, e2⟩ := hO b hb
    have ho := outAll_mem h2 b hb
    have hbx : ρ b.x = (b.g, 0) := by rw [← e1, ← e2]; exact hρ c hc
    cases hbb : b.b with
    | var ty cells =>
      rw [hbb] at ho
      have hk := (hs.mem.ok b.x _ ho).2.2.1
      have hcells := allBw_mem hOc b hb
      rw [hbb] at hcells
      rw [hbx, conc_bw (fun c hc => (hρ c hc).trans (bw_at (l := l) hp hc).1.symm) hcells] at hk
      exact hk
    | arr ty sz n el room =>
      rw [hbb] at ho
      obtain ⟨el2, room2, h3, h4⟩ := ho
      have hk := (hs.mem.ok b.x _ h3).2.2
      rw [hbx] at hk
      obtain ⟨a, h5, h6, h7⟩ := hk
      exact ⟨a, h5, by omega, fun i hi => by rw [← h4 i hi]; exact h7 i hi⟩
    | ro sz n el => rw [hbb] at ho; exact ho.elim
    | obj Q => rw [hbb] at ho; exact ho.elim
theorem endBwS.ret {fn : Func} {x sz n c : Nat} {O : List Bw} {st : St} {r : ResultVar} (h : fn.results.toList = [r]) (h1 : resOne T st r = .v (.c (.slc x 0 sz n c))) (h2 : outAll st.m O) : endBwS T fn x sz n c O .ret st := ⟨.inl rfl, ⟨r, h, h1⟩, h2⟩
/-! ### Slices with three bounds, the empty end of a slice -/
theorem GO.slice3 (hT : Tab.fine P T) {ops : Array Oper} {rest : List Oper} {o : Oper} {t e x sz n c : Nat} {y lo hi mx : Operand} {dd de : TyD} {t0 : Nat → TV} {m : Mem} (l h q : Int) (hg : o.guard = none) (hop : o.op = .slice t y (some lo) (some hi) (some mx)) (hd : dstOk E.N o.dst = true) (ht : T t = some dd) (hk : dd.kind = .slice e) (he : T e = some de)
    (hy : evT t0 y = .v (.c (.slc x 0 sz n c))) (hlo : evT t0 lo = .v (.c (.k (.int .i64 l)))) (hhi : evT t0 hi = .v (.c (.k (.int .i64 h)))) (hmx : evT t0 mx = .v (.c (.k (.int .i64 q)))) (b0 : 0 ≤ l) (b1 : l ≤ h) (b2 : h ≤ q) (b3 : q ≤ (c : Int))
    (k : GO P E ops K rest ⟨Sx.putT t0 o.dst .unk, m⟩) : GO P E ops K (o :: rest) ⟨t0, m⟩ := by
  intro ρ a w hs
  have hkind := (hT.ok t dd ht).kind
  rw [hk] at hkind
  have hsz := (hT.ok e de he).size w
  have ev := fun z => hs.eval z
  have e1 : ∃ A, a.eval y = .slice A n c := by have := ev y; rw [show (St.mk t0 m).ev y = _ from hy] at this; exact ⟨_, this.2⟩
  obtain ⟨A, e1⟩ := e1
  have e2 : a.eval lo = .int .i64 l := by have := ev lo; rw [show (St.mk t0 m).ev lo = _ from hlo] at this; exact this.2
  have e3 : a.eval hi = .int .i64 h := by have := ev hi; rw [show (St.mk t0 m).ev hi = _ from hhi] at this; exact this.2
  have e4 : a.eval mx = .int .i64 q := by have := ev mx; rw [show (St.mk t0 m).ev mx = _ from hmx] at this; exact this.2
  have eh : (h.toNat : Int) = h := Int.toNat_of_nonneg (by omega)
  have em : (q.toNat : Int) = q := Int.toNat_of_nonneg (by omega)
  have hbd : (Instr.sliceBounds true n c (some (.int .i64 l)) (some (.int .i64 h)) (some (.int .i64 q))).run P w = .ok (l.toNat, h.toNat, q.toNat) w := by
    simp [Instr.sliceBounds, run_sliceBound, *, eh, em, (by omega : 0 ≤ l), (by omega : 0 ≤ h), (by omega : 0 ≤ q)]
  have hrun : ∃ v, (execOp a.eval o).run P w = .ok (.value v) w := by
    refine ⟨.slice (if q.toNat = l.toNat then A else A.map (·.add (l.toNat * de.size))) (h.toNat - l.toNat) (q.toNat - l.toNat), ?_⟩
    simp only [execOp, hop, Instr.sliceAt, Instr.slice, Sem.run_bind, hkind w, Result.andThen_ok, e1, e2, e3, e4, Option.map_some, hbd, hsz, Sem.run_pure]
  obtain ⟨v, hrun⟩ := hrun
  unfold wpList
  rw [if_pos (by simp [Region.wanted, hg])]
  refine .inl ?_
  exact Snd.go hs (dstOk_lt hd) (tv := .unk) (Snd.here hs.mem hrun trivial) fun ρ' a' w' hs'' => k ρ' a' w' hs''
theorem Steps.sliceEnd (hT : Tab.fine P T) {ops : Array Oper} {o : Oper} {t e x n : Nat} {y lo : Operand} {dd de : TyD} {C : St} (hg : o.guard = none) (hop : o.op = .slice t y (some lo) none none) (hd : dstOk E.N o.dst = true) (ht : T t = some dd) (hk : dd.kind = .slice e) (he : T e = some de)
    (hy : evT C.t y = .v (.c (.slc x 0 de.size n n))) (hlo : evT C.t lo = .v (.c (.k (.int .i64 n)))) : Steps P E ops o C (.v (.c (.slc x 0 de.size 0 0))) [] := by
  intro st hle ρ a w hs Kc Q hk2
  have hs' := hs.weakT hle.t
  rw [if_pos (by simp [Region.wanted, hg])]
  have hkind := (hT.ok t dd ht).kind
  rw [hk] at hkind
  have hsz := (hT.ok e de he).size w
  have hy' := hs'.eval y
  rw [show (St.mk C.t st.m).ev y = _ from hy] at hy'
  have e1 : a.eval y = .slice (some ⟨(ρ x).1, (ρ x).2 + 0 * de.size, none⟩) n n := hy'.2
  have e2 : a.eval lo = .int .i64 n := by have := hs'.eval lo; rw [show (St.mk C.t st.m).ev lo = _ from hlo] at this; exact this.2
  have hbd : (Instr.sliceBounds true n n (some (.int .i64 n)) none none).run P w = .ok (n, n, n) w := by
    simp [Instr.sliceBounds, run_sliceBound]
  refine Snd.go hs (dstOk_lt hd) (tv := .v (.c (.slc x 0 de.size 0 0))) (Snd.here hs.mem (v := .slice (some ⟨(ρ x).1, (ρ x).2 + 0 * de.size, none⟩) 0 0) ?_ ⟨hy'.1, rfl⟩) fun ρ' a' w' hs'' => hk2 ρ' a' w' hs''
  simp only [execOp, hop, Instr.sliceAt, Instr.slice, Sem.run_bind, hkind w, Result.andThen_ok, e1, e2, Option.map_some, Option.map_none, hbd, hsz, Sem.run_pure, if_true, Nat.sub_self]
theorem GD.sliceEnd (hT : Tab.fine P T) {l : List Oper} {cls : List Nat} {X : List (Nat × Nat)} {base : St} {recs : List DR} {rest : List Oper} {tt : Nat → TV} {m : Mem} {o : Oper} {t e x n : Nat} {y lo : Operand} {dd de : TyD} (i : Nat) (hi : recs.length = i) (hg : o.guard = none) (hop : o.op = .slice t y (some lo) none none) (hd : dstOk E.N o.dst = true) (ht : T t = some dd) (hk : dd.kind = .slice e) (he : T e = some de)
    (hy : evT (canF l cls X base i recs).t y = .v (.c (.slc x 0 de.size n n))) (hlo : evT (canF l cls X base i recs).t lo = .v (.c (.k (.int .i64 n))))
    (k : GD P E K l cls X base (⟨o, .v (.c (.slc x 0 de.size 0 0)), []⟩ :: recs) rest (Sx.putT tt o.dst (.v (.c (.slc x 0 de.size 0 0)))) m) : GD P E K l cls X base recs (o :: rest) tt m := by
  rw [canF_eq hi] at hy hlo
  exact GD.step (Steps.sliceEnd hT hg hop hd ht hk he hy hlo) rfl k
end
end Go.Sx
/- The symbolic executor, part AH: a row's own tail is appended to its head in place, and its rest cleared. Generic over P. -/
set_option linter.unusedVariables false
set_option linter.unusedSimpArgs false
namespace Go.Sx
open Go.RowKit
theorem mem_flatE {el : Nat → List Value} {u : Value} : ∀ (n i : Nat), u ∈ flatE el i n → ∃ q, i ≤ q ∧ q < i + n ∧ u ∈ el q
  | 0, i, h => by simp [flatE] at h
  | n + 1, i, h => by
    rw [flatE, List.mem_append] at h
    rcases h with h | h
    · exact ⟨i, Nat.le_refl _, by omega, h⟩
    · obtain ⟨q, h1, h2, h3⟩ := mem_flatE n (i + 1) h
      exact ⟨q, by omega, by omega, h3⟩
section
variable {P : Program} {E : Env} {K : Exit → St → Prop} {T : Tab}
theorem SatM.setArr {ρ : Val} {m : Mem} {w : World} (h : SatM E ρ m w) {x sz n room n2 room2 : Nat} {ty : TypeId} {el el2 : Nat → List Value} (hx : m x = some (.arr ty sz n el room)) {cur cs : Array Value} (hg : w.heap[(ρ x).1]? = some (.cells cur ty (0, 0))) (hs : n2 * sz + room2 ≤ cs.size)
    (he : ∀ i, i < n2 → (el2 i).length = sz ∧ ∀ j, j < sz → cs[i * sz + j]? = (el2 i)[j]?) : SatM E ρ (up m x (some (.arr ty sz n2 el2 room2))) (w.setRow (ρ x).1 cs) := by
  obtain ⟨h1, h2, _⟩ := h.ok x _ hx
  exact h.put hx trivial trivial (h.fr.setRow (mem_bor h2) cs) (by simp) (fun g hne => heap_setRow_ne w (ρ x).1 g cs hne) ⟨h1, h2, cs, setRow_heap w (ρ x).1 cur cs ty (0, 0) hg, hs, he⟩
theorem Steps.appendIn {ops : Array Oper} {o : Oper} {s y : Operand} {t e size bytes x n i k j c c2 : Nat} {z : Value} {C : St} {el : Nat → List Value} (el2 : Nat → List Value) (hp : ApT P t e size bytes z) (hg : o.guard = none) (hop : o.op = .call { callee := .builtin .append, args := #[s, y], argTypes := #[t, t] }) (hd : dstOk E.N o.dst = true)
    (hs : evT C.t s = .v (.c (.slc x 0 size i c))) (hy : evT C.t y = .v (.c (.slc x j size k c2))) (hx : C.m x = some (.arr e size n el 0)) (h1 : i + k ≤ c) (h2 : i + k ≤ n) (h3 : j + k ≤ n) (ho : ∀ q, q < n → ∀ u ∈ el q, u.oneCell' = true) (hel : ∀ q, q < i + k → el2 q = if q < i then el q else el (j + (q - i))) :
    Steps P E ops o C (.v (.c (.slc x 0 size (i + k) c))) [(x, .arr e size (i + k) el2 ((n - (i + k)) * size))] := by
  intro st hle ρ a w hsat Kc Q hk
  have hs' := hsat.weakT hle.t
  obtain ⟨inf, hi, hz, hsi, hbi⟩ := hp.info
  rw [if_pos (by simp [Region.wanted, hg])]
  have hx2 : st.m x = some (.arr e size n el 0) := by
    rcases hle.m x with h | h
    · rw [hx] at h; cases h
    · exact h.trans hx
  obtain ⟨hρx, hox, cur, g1, g2, g3⟩ := hsat.mem.ok x _ hx2
  have es : a.eval s = .slice (some ⟨(ρ x).1, 0, none⟩) i c := by
    have := hs'.eval s
    rw [show (St.mk C.t st.m).ev s = _ from hs] at this
    simpa [AV.conc, AC.conc, hρx] using this.2
  have ey : a.eval y = .slice (some ⟨(ρ x).1, j * size, none⟩) k c2 := by
    have := hs'.eval y
    rw [show (St.mk C.t st.m).ev y = _ from hy] at this
    simpa [AV.conc, AC.conc, hρx] using this.2
  have hlen : ∀ q, j ≤ q → q < j + k → (el q).length = size := fun q _ hq => (g3 q (by omega)).1
  have hl := flatE_len (el := el) (sz := size) k j hlen
  have hget : ∀ d, d < k * size → (flatE el j k)[d]? = cur[j * size + d]? := fun d hd => flatE_get (el := el) (sz := size) k j hlen (fun q => cur[q]?) (fun q _ hq d hd => (g3 q (by omega)).2 d hd) d hd
  have hnews : ∀ d u, (flatE el j k)[d]? = some u → w.cell? ((⟨(ρ x).1, j * size, none⟩ : Addr).add d) = some u := by
    intro d u hd
    have hlt : d < k * size := by have := (List.getElem?_eq_some_iff.1 hd).1; omega
    rw [Addr.add_lit, cell_of_heap g1, ← hget d hlt]
    exact hd
  have hone : ∀ u ∈ flatE el j k, u.oneCell' = true := fun u hu => by
    obtain ⟨q, _, hq, hu⟩ := mem_flatE k j hu
    exact ho q (by omega) u hu
  have hcs : i * size + k * size ≤ cur.size := by
    have := Nat.mul_le_mul_right size h2
    rw [Nat.add_mul] at this
    omega
  have hrun := run_append_room (P := P) w t o.type e inf hp.ht hi (ρ x).1 i c cur g1 ⟨(ρ x).1, j * size, none⟩ k c2 (flatE el j k) (by rw [hsi]; exact hl) hnews hone h1 (by rw [hsi, hl]; exact hcs)
  rw [hsi, hl] at hrun
  have hex : (execOp a.eval o).run P w = .ok (.value (.slice (some ⟨(ρ x).1, 0, none⟩) (i + k) c)) (w.setRow (ρ x).1 (cur.toList.take (i * size) ++ flatE el j k ++ cur.toList.drop (i * size + k * size)).toArray) := by
    simp only [List.append_assoc] at hrun
    simp [execOp, hop, resolve, invoke, builtin, es, ey, hrun, Result.andThen]
  have hlt0 : (List.take (i * size) cur.toList).length = i * size := by simp; omega
  have hmem := hsat.mem.setArr hx2 (n2 := i + k) (room2 := (n - (i + k)) * size) (el2 := el2) (cs := (cur.toList.take (i * size) ++ flatE el j k ++ cur.toList.drop (i * size + k * size)).toArray) g1 (by
    simp only [List.size_toArray, List.length_append, hlt0, hl, List.length_drop, Array.length_toList]
    have : (i + k) * size + (n - (i + k)) * size = n * size := by rw [← Nat.add_mul]; congr 1; omega
    rw [this]
    rw [Nat.add_zero] at g2
    omega) fun q hq => by
    rw [hel q hq]
    by_cases h : q < i
    · rw [if_pos h]
      refine ⟨(g3 q (by omega)).1, fun d hd => ?_⟩
      have hlt : q * size + d < i * size := by
        have := Nat.mul_le_mul_right size (show q + 1 ≤ i from h)
        rw [Nat.add_mul] at this
        omega
      rw [← (g3 q (by omega)).2 d hd]
      simp only [List.getElem?_toArray]
      rw [List.append_assoc, List.getElem?_append_left (by rw [hlt0]; exact hlt), List.getElem?_take, if_pos hlt]
      simp
    · rw [if_neg h]
      refine ⟨(g3 _ (by omega)).1, fun d hd => ?_⟩
      have e1 : q * size + d = i * size + ((q - i) * size + d) := by
        have : q * size = i * size + (q - i) * size := by rw [← Nat.add_mul]; congr 1; omega
        omega
      have hlt : (q - i) * size + d < k * size := by
        have := Nat.mul_le_mul_right size (show (q - i) + 1 ≤ k by omega)
        rw [Nat.add_mul] at this
        omega
      rw [← (g3 (j + (q - i)) (by omega)).2 d hd]
      simp only [List.getElem?_toArray]
      rw [List.append_assoc, List.getElem?_append_right (by rw [hlt0]; omega), hlt0, List.getElem?_append_left (by rw [hl]; omega), show q * size + d - i * size = (q - i) * size + d by omega, hget _ hlt]
      congr 1
      rw [Nat.add_mul]
      omega
  unfold Oper.wp
  rw [hex]
  refine hk ρ _ _ ?_
  rw [upm_one]
  refine (hsat.move hmem (fun q hq => isSome_up q hq) fun _ _ => rfl).putT (dstOk_lt hd) (tv := .v (.c (.slc x 0 size (i + k) c))) ⟨?_, ?_⟩
  · show (up st.m x _ x).isSome = true
    rw [up_same]; rfl
  · simp [AV.conc, AC.conc, hρx]
theorem GD.appendIn {l : List Oper} {cls : List Nat} {X : List (Nat × Nat)} {base : St} {recs : List DR} {rest : List Oper} {tt : Nat → TV} {m : Mem} {o : Oper} {s y : Operand} {t e size bytes x n i k j c c2 : Nat} {z : Value} {el : Nat → List Value} (el2 : Nat → List Value) (r : Nat) (hi : recs.length = r) (hp : ApT P t e size bytes z) (hg : o.guard = none) (hop : o.op = .call { callee := .builtin .append, args := #[s, y], argTypes := #[t, t] }) (hd : dstOk E.N o.dst = true)
    (hs : evT (canF l cls X base r recs).t s = .v (.c (.slc x 0 size i c))) (hy : evT (canF l cls X base r recs).t y = .v (.c (.slc x j size k c2))) (hx : (canF l cls X base r recs).m x = some (.arr e size n el 0)) (hw : Wok X r o [(x, .arr e size (i + k) el2 ((n - (i + k)) * size))] = true) (h1 : i + k ≤ c) (h2 : i + k ≤ n) (h3 : j + k ≤ n) (ho : ∀ q, q < n → ∀ u ∈ el q, u.oneCell' = true) (hel : ∀ q, q < i + k → el2 q = if q < i then el q else el (j + (q - i)))
    (kk : GD P E K l cls X base (⟨o, .v (.c (.slc x 0 size (i + k) c)), [(x, .arr e size (i + k) el2 ((n - (i + k)) * size))]⟩ :: recs) rest (Sx.putT tt o.dst (.v (.c (.slc x 0 size (i + k) c)))) (upm m [(x, .arr e size (i + k) el2 ((n - (i + k)) * size))])) : GD P E K l cls X base recs (o :: rest) tt m := by
  rw [canF_eq hi] at hs hy hx
  exact GD.step (Steps.appendIn el2 hp hg hop hd hs hy hx h1 h2 h3 ho hel) (by rw [hi]; exact hw) kk
/-- One operation of a region that draws, by itself. -/
theorem GD.op1 (hT : Tab.fine P T) {l : List Oper} {cls : List Nat} {X : List (Nat × Nat)} {base : St} {recs : List DR} {rest : List Oper} {tt : Nat → TV} {m m' : Mem} {o : Oper} {tv : TV} {obs : List Prop} (i : Nat) (hi : recs.length = i) (h : stepE T E.N l.toArray (canF l cls X base i recs).t (canF l cls X base i recs).m o = .ok tv m' obs) (ho : AllP obs) (hms : msS (canF l cls X base i recs) o m' = [])
    (k : GD P E K l cls X base (⟨o, tv, []⟩ :: recs) rest (Sx.putT tt o.dst tv) m) : GD P E K l cls X base recs (o :: rest) tt m := by
  rw [canF_eq hi] at h hms
  have := Steps.op (P := P) (E := E) hT h ho
  rw [hms] at this
  exact GD.step this rfl k
theorem GO.clear {ops : Array Oper} {rest : List Oper} {o : Oper} {y : Operand} {t e size bytes x n i k c room : Nat} {z : Value} {t0 : Nat → TV} {m : Mem} {el : Nat → List Value} (hp : ApT P t e size bytes z) (hg : o.guard = none) (hop : o.op = .call { callee := .builtin .clear, args := #[y], argTypes := #[t] }) (hd : o.dst = none)
    (hy : evT t0 y = .v (.c (.slc x i size k c))) (hx : m x = some (.arr e size n el room)) (hk0 : 0 < k) (hni : n ≤ i) (hfit : (i + k) * size ≤ n * size + room) (hz : ∀ w : World, (zeroValue e).run P w = .ok z w) (h1 : ∀ u ∈ z.cells.toList, u.oneCell' = true)
    (kk : GO P E ops K rest ⟨t0, m⟩) : GO P E ops K (o :: rest) ⟨t0, m⟩ := by
  intro ρ a w hsat
  obtain ⟨hρx, hox, cur, g1, g2, g3⟩ := hsat.mem.ok x _ hx
  have ey : a.eval y = .slice (some ⟨(ρ x).1, i * size, none⟩) k c := by
    have := hsat.eval y
    rw [show (St.mk t0 m).ev y = _ from hy] at this
    simpa [AV.conc, AC.conc, hρx] using this.2
  obtain ⟨zs, hzs⟩ : ∃ zs, zs = (Builtin.zeroCells z.cells k).toList := ⟨_, rfl⟩
  have hzl : zs.length = k * size := by rw [hzs, Array.length_toList, size_zeroCells, hp.hz]
  have hz1 : ∀ u ∈ zs, u.oneCell' = true := by
    intro u hu
    rw [hzs] at hu
    simp only [Builtin.zeroCells, Array.toList_map, List.mem_map] at hu
    obtain ⟨q, _, rfl⟩ := hu
    have hlt : q % z.cells.size < z.cells.size := Nat.mod_lt _ (by rw [hp.hz]; exact hp.pos)
    rw [getElem!_pos z.cells _ hlt]
    exact h1 _ (Array.getElem_mem_toList hlt)
  have hst := run_storeCells_at P (ρ x).1 (i * size) e zs 0 cur w g1 (by rw [hzl]; rw [Nat.add_mul] at hfit; omega) hz1
  simp only [Nat.add_zero] at hst
  have hrun : (execOp a.eval o).run P w = .ok (.value (.tuple #[])) (w.setRow (ρ x).1 (cur.toList.take (i * size) ++ zs ++ cur.toList.drop (i * size + zs.length)).toArray) := by
    obtain ⟨k', rfl⟩ : ∃ k', k = k' + 1 := ⟨k - 1, by omega⟩
    simp [execOp, hop, resolve, invoke, builtin, ey, Builtin.clear_, run_underlying hp.ht, hz, ← hzs, hst, Result.andThen]
  have hmem := hsat.mem.setArr hx (n2 := n) (room2 := room) (el2 := el) (cs := (cur.toList.take (i * size) ++ zs ++ cur.toList.drop (i * size + zs.length)).toArray) g1 (by
    simp only [List.size_toArray, List.length_append, List.length_take, List.length_drop, Array.length_toList, hzl]
    rw [Nat.add_mul] at hfit
    omega) fun q hq => by
    refine ⟨(g3 q hq).1, fun d hd => ?_⟩
    have hlt : q * size + d < i * size := by
      have := Nat.mul_le_mul_right size (show q + 1 ≤ i by omega)
      rw [Nat.add_mul] at this
      omega
    rw [← (g3 q hq).2 d hd]
    simp only [List.getElem?_toArray]
    rw [List.append_assoc, List.getElem?_append_left (by simp; rw [Nat.add_mul] at hfit; omega), List.getElem?_take, if_pos hlt]
    simp
  have hm0 : up m x (some (.arr e size n el room)) = m := by
    funext q
    by_cases hq : q = x
    · subst hq; rw [up_same, hx]
    · rw [up_other _ _ hq]
  rw [hm0] at hmem
  unfold wpList
  rw [if_pos (by simp [Region.wanted, hg])]
  refine .inl ?_
  unfold Oper.wp
  rw [hrun]
  refine kk ρ _ _ ?_
  have := (hsat.move hmem (fun q hq => hq) fun _ _ => rfl).putT (d := o.dst) (fun q hq => by rw [hd] at hq; cases hq) (tv := .unk) (v := .tuple #[]) trivial
  rw [hd] at this ⊢
  exact this
def min3 (a b c : Int) : Int := if c < (if b < a then b else a) then c else if b < a then b else a
/-- The least of three numbers, under a guard. -/
theorem GO.min3G {ops : Array Oper} {rest : List Oper} {o : Oper} {at_ : Array TypeId} {j : Nat} {p q r : Operand} {want cb : Bool} {t0 : Nat → TV} {m : Mem} (a b c : Int) (hg : o.guard = some (j, want)) (hb : guardB ops t0 j want = some cb) (hop : o.op = .call { callee := .builtin .min, args := #[p, q, r], argTypes := at_ })
    (hob : AllP (stripObs t0 j want cb (slotsOf o.op.operands.toList))) (hp : evG t0 j want (slotsOf o.op.operands.toList) p = .v (.c (.k (.int .i64 a)))) (hq : evG t0 j want (slotsOf o.op.operands.toList) q = .v (.c (.k (.int .i64 b)))) (hr : evG t0 j want (slotsOf o.op.operands.toList) r = .v (.c (.k (.int .i64 c)))) (hd : dstOk E.N o.dst = true)
    (k : GO P E ops K rest ⟨Sx.putT t0 o.dst (.grd j want cb (.c (.k (.int .i64 (min3 a b c))))), m⟩) : GO P E ops K (o :: rest) ⟨t0, m⟩ := by
  refine GO.steps (tv := .grd j want cb (.c (.k (.int .i64 (min3 a b c))))) (ms := []) ?_ k
  intro st hle ρ ac w hs Kc Q hk
  have hs' := hs.weakT hle.t
  have hw := wanted_cond (ops := ops) hs' hg hb
  rw [hw]
  cases hcb : cb with
  | true =>
    subst hcb
    rw [if_pos rfl]
    have hev := fun y => evG_rep hs' hob rfl y
    have e1 : ac.eval p = .int .i64 a := by have := hev p; rw [hp] at this; exact this.2
    have e2 : ac.eval q = .int .i64 b := by have := hev q; rw [hq] at this; exact this.2
    have e3 : ac.eval r = .int .i64 c := by have := hev r; rw [hr] at this; exact this.2
    have hrun : (execOp ac.eval o).run P w = .ok (.value (.int .i64 (min3 a b c))) w := by
      simp only [execOp, hop, resolve, List.map_toArray, List.map_cons, List.map_nil, Sem.run_bind, Sem.run_pure, Result.andThen_ok, invoke, builtin, Builtin.min_, e1, e2, e3, List.foldlM_cons, List.foldlM_nil, Builtin.min2]
      rfl
    exact Snd.go hs (dstOk_lt hd) (tv := .grd j want true (.c (.k (.int .i64 (min3 a b c))))) (Snd.here hs.mem hrun ⟨fun _ => ⟨trivial, rfl⟩, fun hf => by cases hf⟩) fun ρ' a' w' hs'' => hk ρ' a' w' hs''
  | false =>
    subst hcb
    rw [if_neg (by simp)]
    exact hk ρ _ w (hs.putT (dstOk_lt hd) ⟨fun hf => (by cases hf), fun _ => rfl⟩)
/-- A function that answers with a row of its own making. -/
def endOwnN (T : Tab) (fn : Func) (ty : TypeId) (n sz : Nat) (el : Nat → List Value) : Exit → St → Prop := fun e st => (e = .ret ∨ e = .normal) ∧ ∃ r, fn.results.toList = [r] ∧ ∃ x c el2 room, resOne T st r = .v (.c (.slc x 0 sz n c)) ∧ n ≤ c ∧ st.m x = some (.arr ty sz n el2 room) ∧ ∀ i, i < n → el2 i = el i
theorem enterOwnNew (hT : Tab.fine P T) {f : FuncId} {fn : Func} {c : Code} {args : Array Value} {w : World} (ty : TypeId) (n sz : Nat) (el : Nat → List Value) (hf : P.funcs[f]? = some fn) (hb : fn.body = some c) (N : Nat) (hN : fn.ntmps = N) (avs : List AV) (l : List Inp)
    (hargs : args = (avs.map (AV.conc (inpsV l))).toArray) (hl : Nat.ble avs.length N = true) (hr : allRd w l) (ha : allInps l avs)
    (h : G P ⟨w, [], N⟩ (endOwnN T fn ty n sz el) c ⟨argsT avs, lkM (inpsM l)⟩) : Calls P f args w fun e w' => OwnNew w w' e ty n sz el ∧ Below w.heap.size w w' := by
  subst hN
  refine enter (E := ⟨w, [], fn.ntmps⟩) hf hb (inpsV l) (Sat.init hr ha hargs (Nat.le_of_ble_eq_true hl)) (h.mono fun e st hk => ⟨hk.1, fun ρ a w' hs => ?_⟩)
  obtain ⟨r, h1, x, cp, el2, room, h2, h3, h4, h5⟩ := hk.2
  obtain ⟨h6, h7⟩ := resOne_run hT hs h2
  obtain ⟨k1, k2, k3⟩ := hs.mem.ok x _ h4
  have k2 : w.heap.size ≤ (ρ x).1 := by
    rcases k2 with h | h
    · exact h
    · cases h
  obtain ⟨cs, q1, q2, q3⟩ := k3
  refine ⟨_, results_one h1 h6, ⟨(ρ x).1, cp, ?_, h3, k2, cs, q1, by omega, fun i hi => by rw [← h5 i hi]; exact q3 i hi⟩, hs.mem.fr.toBelow⟩
  simp [AV.conc, AC.conc, k1]
theorem endOwnN.ret {fn : Func} {ty n sz c x room : Nat} {el el2 : Nat → List Value} {st : St} {r : ResultVar} (h : fn.results.toList = [r]) (h1 : resOne T st r = .v (.c (.slc x 0 sz n c))) (h2 : n ≤ c) (h3 : st.m x = some (.arr ty sz n el2 room)) (h4 : ∀ i, i < n → el2 i = el i) : endOwnN T fn ty n sz el .ret st := ⟨.inl rfl, r, h, x, c, el2, room, h1, h2, h3, h4⟩
end
end Go.Sx
/- The symbolic executor, part AI: append onto an empty row, in regions that draw their order. Generic over P. -/
set_option linter.unusedVariables false
set_option linter.unusedSimpArgs false
namespace Go.Sx
open Go.RowKit
section
variable {P : Program} {E : Env} {K : Exit → St → Prop} {T : Tab}
theorem Steps.emptyOwn (hT : Tab.fine P T) {ops : Array Oper} {o : Oper} {t e d : Nat} {dd de : TyD} {C : St} (sz : Nat) (el : Nat → List Value) (hg : o.guard = none) (hop : o.op = .buildSlice t 0 #[]) (hd : o.dst = some d) (hdN : Nat.blt d E.N = true) (hdb : Nat.blt d 1000 = true) (ht : T t = some dd) (hk : dd.kind = .slice e) (he : T e = some de) (hx : C.m d = none) :
    Steps P E ops o C (.v (.c (.slc d 0 sz 0 0))) [(d, .arr e sz 0 el 0)] := by
  intro st hle ρ a w hs Kc Q hk2
  rw [if_pos (by simp [Region.wanted, hg])]
  have hkind := (hT.ok t dd ht).kind
  rw [hk] at hkind
  have hsz := (hT.ok e de he).size w
  have hrun : (execOp a.eval o).run P w = .ok (.value (.slice (some ⟨w.heap.size, 0, none⟩) 0 0)) (w.alloc (.cells #[] e)) := by
    simp [execOp, hop, Instr.buildSlice, hkind w, hsz, Instr.fill, newRow]
    rw [show (w.alloc (.cells #[] e)) = w.alloc (.cells (Array.map (fun _ => (default : Value)) (Array.range 0)) e) by rw [show (Array.map (fun _ => (default : Value)) (Array.range 0)) = #[] from by apply Array.toList_inj.1; simp]]
  have hx2 : st.m d = none := by
    rw [hle.n d (by simp [mget])]
    exact hx
  have hm := hs.mem.newArr (x := d) hx2 (by simpa [Nat.blt_eq] using hdb) e (sz := sz) (n := 0) (room := 0) (el := el) (a := #[]) (by simp) (fun i hi => absurd hi (Nat.not_lt_zero i))
  have hρ : ∀ y, (st.m y).isSome = true → up ρ d (w.heap.size, 0) y = ρ y := fun y hy => up_other _ _ (fun e => by subst e; simp [hx2] at hy)
  unfold Oper.wp
  rw [hrun]
  refine hk2 (up ρ d (w.heap.size, 0)) _ _ ?_
  rw [upm_one]
  refine (hs.move hm (fun y hy => isSome_up y hy) hρ).putT (fun q hq => by rw [hd] at hq; injection hq with hq; subst hq; simpa [Nat.blt_eq] using hdN) (tv := .v (.c (.slc d 0 sz 0 0))) ⟨?_, ?_⟩
  · show (up st.m d _ d).isSome = true
    rw [up_same]; rfl
  · simp [AV.conc, AC.conc, up_same]
theorem GD.emptyOwn (hT : Tab.fine P T) {l : List Oper} {cls : List Nat} {X : List (Nat × Nat)} {base : St} {recs : List DR} {rest : List Oper} {tt : Nat → TV} {m : Mem} {o : Oper} {t e d : Nat} {dd de : TyD} (sz : Nat) (el : Nat → List Value) (i : Nat) (hi : recs.length = i) (hg : o.guard = none) (hop : o.op = .buildSlice t 0 #[]) (hd : o.dst = some d) (hdN : Nat.blt d E.N = true) (hdb : Nat.blt d 1000 = true) (ht : T t = some dd) (hk : dd.kind = .slice e) (he : T e = some de) (hx : (canF l cls X base i recs).m d = none) (hw : Wok X i o [(d, .arr e sz 0 el 0)] = true)
    (k : GD P E K l cls X base (⟨o, .v (.c (.slc d 0 sz 0 0)), [(d, .arr e sz 0 el 0)]⟩ :: recs) rest (Sx.putT tt o.dst (.v (.c (.slc d 0 sz 0 0)))) (upm m [(d, .arr e sz 0 el 0)])) : GD P E K l cls X base recs (o :: rest) tt m := by
  rw [canF_eq hi] at hx
  exact GD.step (Steps.emptyOwn hT sz el hg hop hd hdN hdb ht hk he hx) (by rw [hi]; exact hw) k
theorem Steps.appendRowNew {ops : Array Oper} {o : Oper} {s y : Operand} {t e size bytes d x sz' q n c : Nat} {z : Value} {A : Option Addr} {C : St} (el : Nat → List Value) (hp : ApT P t e size bytes z) (hg : o.guard = none) (hop : o.op = .call { callee := .builtin .append, args := #[s, y], argTypes := #[t, t] }) (hd : o.dst = some d) (hdN : Nat.blt d E.N = true) (hdb : Nat.blt (d + 50) 1000 = true)
    (hx : C.m d = none) (hx2 : C.m (d + 50) = none) (hs : evT C.t s = .v (.c (.slc x 0 sz' 0 0))) (hy : evT C.t y = .v (.c (.inp q A n c))) (hq : C.m q = some (.ro size n el)) (hlen : ∀ k, k < n → (el k).length = size) (h1 : ∀ i, i < n → ∀ u ∈ el i, u.oneCell' = true) (b1 : n ≤ maxLen) (b2 : n * bytes ≤ 140737488355328) :
    Steps P E ops o C (.v (.c (.row d n E.w0.heap.size))) (msL [.r n size el] [d]) := by
  intro st hle ρ a w hsat Kc Q hk
  have hs' := hsat.weakT hle.t
  rw [if_pos (by simp [Region.wanted, hg])]
  have n1 : st.m d = none := by rw [hle.n d (by simp only [msL, mget, List.nil_append]; cases Nat.beq d (d + 50) <;> simp)]; exact hx
  have n2 : st.m (d + 50) = none := by rw [hle.n (d + 50) (by simp [msL, mget])]; exact hx2
  have hq2 : st.m q = some (.ro size n el) := by
    rcases hle.m q with h | h
    · rw [hq] at h; cases h
    · exact h.trans hq
  have hs2 := hs'.eval s
  rw [show (St.mk C.t st.m).ev s = _ from hs] at hs2
  obtain ⟨AA, hAA⟩ : ∃ AA : Addr, AA = ⟨(ρ x).1, (ρ x).2 + 0 * sz', none⟩ := ⟨_, rfl⟩
  have es : a.eval s = .slice (some AA) 0 0 := by rw [hAA]; exact hs2.2
  have hy2 := hs'.eval y
  rw [show (St.mk C.t st.m).ev y = _ from hy] at hy2
  have ey : a.eval y = .slice A n c := hy2.2
  have hr : RdRow w A n size el := hsat.mem.rd (cap := c) hq2 hy2.1 (Nat.le_refl _)
  have key : ∀ (B : Option Addr) (cp : Nat) (w' : World), Below w.heap.size w w' → (execOp a.eval o).run P w = .ok (.value (.slice B n cp)) w' → (0 < n → ∃ b o, B = some ⟨b, o, none⟩ ∧ w.heap.size ≤ b ∧ b < w'.heap.size ∧ ∀ i, i < n → (el i).length = size ∧ ∀ j, j < size → w'.cell? ⟨b, o + (i * size + j), none⟩ = (el i)[j]?) → (∀ a, B = some a → a.spot = none) → n ≤ cp → o.wp P a w Kc Q := by
    intro B cp w' hb hrun h3 h4 h5
    obtain ⟨ρ', k1, k2, k3, k4, _⟩ := (hsat.mem.below hb).addRow (fun y b hy ho => hsat.mem.lt hy ho) n1 n2 hdb h3 h4 h5
    unfold Oper.wp
    rw [hrun]
    refine hk ρ' _ w' ?_
    rw [upm_msL]
    refine (hsat.move k2 (fun y hy => isSome_rowM y hy) k1).putT (fun q hq => by rw [hd] at hq; injection hq with hq; subst hq; simpa [Nat.blt_eq] using hdN) (tv := .v (.c (.row d n E.w0.heap.size))) ⟨?_, ?_⟩
    · obtain ⟨r1, r2, r3, r4⟩ := k3
      exact ⟨r1, r2, fun h0 => ⟨(r3 h0).1, Nat.le_trans hsat.mem.fr.size (r3 h0).2⟩, r4⟩
    · exact k4.symm
  rcases append_new (ty := o.type) hp (A := some AA) (c := c) hr h1 b1 b2 with ⟨h0, hrun⟩ | ⟨h0, v', w', hrun, r1, r2⟩
  · refine key (some AA) 0 w (Below.refl _ _) ?_ (fun h => by omega) (fun a ha => by injection ha with ha; subst ha; rw [hAA]) (by omega)
    rw [h0] at ey ⊢
    rw [h0] at hrun
    simp [execOp, hop, resolve, invoke, builtin, es, ey, hrun, Result.andThen]
  · have hb : Below w.heap.size w w' := ⟨r2.os, r2.tape, r2.output, r2.size, fun k hk => r2.block k hk (by simp)⟩
    rcases r1.2 with ⟨_, hz⟩ | ⟨g, cp, cur, rfl, hbg, hgg, hnc, hcm, hcs, htake⟩
    · omega
    refine key (some ⟨g, 0, none⟩) cp w' hb ?_ (fun _ => ⟨g, 0, rfl, hbg, lt_of_heap hgg, fun i hi => ⟨hlen i hi, fun j hj => ?_⟩⟩) (fun a ha => by injection ha with ha; subst ha; rfl) hnc
    · simp [execOp, hop, resolve, invoke, builtin, es, ey, hrun, Result.andThen]
    · rw [Nat.zero_add, cell_of_heap hgg, ← flatE_at hlen hi hj, ← htake, List.getElem?_take, if_pos (by
        have := Nat.mul_le_mul_right size (show i + 1 ≤ n from hi)
        rw [Nat.add_mul] at this
        omega)]
      simp
theorem GD.appendRowNew {l : List Oper} {cls : List Nat} {X : List (Nat × Nat)} {base : St} {recs : List DR} {rest : List Oper} {tt : Nat → TV} {m : Mem} {o : Oper} {s y : Operand} {t e size bytes d x sz' q n c : Nat} {z : Value} {A : Option Addr} (el : Nat → List Value) (i : Nat) (hi : recs.length = i) (hp : ApT P t e size bytes z) (hg : o.guard = none) (hop : o.op = .call { callee := .builtin .append, args := #[s, y], argTypes := #[t, t] }) (hd : o.dst = some d) (hdN : Nat.blt d E.N = true) (hdb : Nat.blt (d + 50) 1000 = true)
    (hx : (canF l cls X base i recs).m d = none) (hx2 : (canF l cls X base i recs).m (d + 50) = none) (hs : evT (canF l cls X base i recs).t s = .v (.c (.slc x 0 sz' 0 0))) (hy : evT (canF l cls X base i recs).t y = .v (.c (.inp q A n c))) (hq : (canF l cls X base i recs).m q = some (.ro size n el)) (hw : Wok X i o (msL [.r n size el] [d]) = true) (hlen : ∀ k, k < n → (el k).length = size) (h1 : ∀ i, i < n → ∀ u ∈ el i, u.oneCell' = true) (b1 : n ≤ maxLen) (b2 : n * bytes ≤ 140737488355328)
    (k : GD P E K l cls X base (⟨o, .v (.c (.row d n E.w0.heap.size)), msL [.r n size el] [d]⟩ :: recs) rest (Sx.putT tt o.dst (.v (.c (.row d n E.w0.heap.size)))) (upm m (msL [.r n size el] [d]))) : GD P E K l cls X base recs (o :: rest) tt m := by
  rw [canF_eq hi] at hx hx2 hs hy hq
  exact GD.step (Steps.appendRowNew el hp hg hop hd hdN hdb hx hx2 hs hy hq hlen h1 b1 b2) (by rw [hi]; exact hw) k
end
end Go.Sx
/- Chapter 15: what a reading of a table comes to, copies of tables, and the law GaugeReports. -/
set_option linter.unusedVariables false
set_option linter.unusedSimpArgs false
set_option maxRecDepth 8000
set_option maxHeartbeats 1000000
namespace Go.Proofs.Ytiicemgngccicaa
open Go.Sx Go.RowKit
abbrev Mk := Int × Int
structure TabOk (l : List Mk) (tol : Int) : Prop where
  two : 2 ≤ l.length
  most : l.length ≤ 128
  tol0 : 0 ≤ tol ∧ tol ≤ 4294967296
  mark : ∀ k, k < l.length → (0 ≤ (l.getD k (0, 0)).1 ∧ (l.getD k (0, 0)).1 ≤ 200000) ∧ 0 ≤ (l.getD k (0, 0)).2 ∧ (l.getD k (0, 0)).2 ≤ 4294967296
  step : ∀ k, 0 < k → k < l.length → (l.getD (k - 1) (0, 0)).1 < (l.getD k (0, 0)).1 ∧ (l.getD (k - 1) (0, 0)).2 ≤ (l.getD k (0, 0)).2
theorem tab_ok {l : List Mk} {tol : Int} (h : tabE l tol = 0) : TabOk l tol := by
  unfold tabE at h
  split at h
  · cases h
  rename_i h1
  split at h
  · cases h
  rename_i h2
  split at h
  · cases h
  rename_i h3
  split at h
  · cases h
  rename_i h4
  simp only [decide_eq_true_eq] at h1 h2
  rw [Bool.or_eq_true, not_or, Bool.not_eq_true', Bool.not_eq_false] at h3
  have ht : 0 ≤ tol ∧ tol ≤ 4294967296 := by simpa [dip_volume] using h3.1
  have gd : ∀ k (hk : k < l.length), l.getD k (0, 0) = l[k] := fun k hk => by rw [List.getD_eq_getElem?_getD, List.getElem?_eq_getElem hk]; rfl
  refine ⟨by omega, by omega, ht, fun k hk => ?_, fun k h0 hk => ?_⟩
  · have := h3.2
    rw [Bool.not_eq_true, List.any_eq_false] at this
    have := this l[k] (List.getElem_mem hk)
    rw [gd k hk]
    simp [badM, dip_Check_1, dip_volume] at this
    omega
  · rw [badPs, Bool.not_eq_true, List.any_eq_false] at h4
    have := h4 k (List.mem_range'_1.2 ⟨by omega, by omega⟩)
    unfold badP at this
    rw [Bool.not_eq_true, Bool.or_eq_false_iff] at this
    have e1 := of_decide_eq_false this.1
    have e2 := of_decide_eq_false this.2
    omega
theorem TabOk.mono {l : List Mk} {tol : Int} (h : TabOk l tol) {i j : Nat} (hij : i ≤ j) (hj : j < l.length) : (l.getD i (0, 0)).1 ≤ (l.getD j (0, 0)).1 ∧ (l.getD i (0, 0)).2 ≤ (l.getD j (0, 0)).2 := by
  induction j with
  | zero => have : i = 0 := by omega
            subst this; omega
  | succ j ih =>
    by_cases e : i = j + 1
    · subst e; omega
    · have h1 := ih (by omega) (by omega)
      have h2 := h.step (j + 1) (by omega) hj
      simp only [Nat.add_sub_cancel] at h2
      omega
theorem idx_spec {l : List Mk} {tol h : Int} (hz : readE l tol h = 0) : idx l h < l.length ∧ h ≤ (l.getD (idx l h) (0, 0)).1 ∧ ∀ j, j < idx l h → (l.getD j (0, 0)).1 < h := by
  obtain ⟨h1, h2, h3⟩ := readE_ok hz
  have ok := tab_ok h1
  have gd : ∀ k (hk : k < l.length), l.getD k (0, 0) = l[k] := fun k hk => by rw [List.getD_eq_getElem?_getD, List.getElem?_eq_getElem hk]; rfl
  have h2l := ok.two
  have hlt : idx l h < l.length := List.findIdx_lt_length_of_exists ⟨l[l.length - 1], List.getElem_mem _, by rw [gd _ (by omega)] at h3; simpa using h3⟩
  refine ⟨hlt, ?_, fun j hj => ?_⟩
  · have := List.findIdx_getElem (p := fun m : Int × Int => decide (m.1 ≥ h)) (w := hlt)
    rw [gd _ hlt]
    exact of_decide_eq_true this
  · have := List.not_of_lt_findIdx hj
    rw [gd j (by omega)]
    simp at this
    omega
/-- The lesser of the two volumes at a height. -/
def lowV (l : List Mk) (h : Int) : Int := if (l.getD (idx l h) (0, 0)).1 ≤ h then (l.getD (idx l h) (0, 0)).2 else (l.getD (idx l h - 1) (0, 0)).2
theorem wet_ok {l : List Mk} {tol h : Int} (hz : readE l tol h = 0) : wet3 l tol h = (lowV l h, (l.getD (idx l h) (0, 0)).2 + tol, 0) ∧ 0 ≤ lowV l h ∧ lowV l h ≤ (l.getD (idx l h) (0, 0)).2 ∧ (l.getD (idx l h) (0, 0)).2 ≤ 4294967296 ∧ 0 ≤ tol ∧ tol ≤ 4294967296 := by
  have ok := tab_ok (readE_ok hz).1
  obtain ⟨h1, h2, h3⟩ := idx_spec hz
  have hm := ok.mark _ h1
  have ht := ok.tol0
  refine ⟨by rw [wet3, if_neg (by simp [hz])]; rfl, ?_, ?_, hm.2.2, ht.1, ht.2⟩
  · unfold lowV
    split
    · exact hm.2.1
    · exact (ok.mark _ (by omega)).2.1
  · unfold lowV
    split
    · exact Int.le_refl _
    · exact (ok.mono (Nat.sub_le _ _) h1).2
theorem wet_bad {l : List Mk} {tol h : Int} (hz : readE l tol h ≠ 0) : wet3 l tol h = (0, 0, readE l tol h) := by
  rw [wet3, if_pos (by simpa using hz)]
theorem to20_small {v r h k : Int} (hv : 0 ≤ v ∧ v ≤ 8589934592) (hr : thermal_rises r = true) (hh : thermal_heat h = true) (hk : isB k = true) : (thermal_To20 v r h k).2 = 0 ∧ (thermal_To20 v r h k).1 = rndQ (v * 10000000) (fac r h) k ∧ 0 ≤ rndQ (v * 10000000) (fac r h) k ∧ rndQ (v * 10000000) (fac r h) k ≤ 34359738368 := by
  have hf := fac_bd hr hh
  have h0 := rdy_of (v := v) hk hr hh (amt_of ⟨hv.1, by unfold M; omega⟩)
  have h1 := rnd_near (x := v * 10000000) (c := fac r h) (k := k) (by omega)
  have h2 := rnd_nonneg (x := v * 10000000) (c := fac r h) (k := k) (by omega) (by omega)
  have h3 := Int.mul_le_mul_of_nonneg_left (show 4000000 ≤ fac r h by omega) h2
  have h4 : rndQ (v * 10000000) (fac r h) k ≤ 34359738368 := by omega
  rw [to20_full h0, if_neg (by unfold M; omega)]
  exact ⟨rfl, rfl, h2, h4⟩
/-- The bounds at 20 degrees of what is small. -/
theorem btw_small {a b s r : Int} (ha : 0 ≤ a) (hab : a ≤ b) (hb : b ≤ 8589934592) (hr : thermal_rises r = true) (hs : thermal_heat s = true) : btw3 a b s s r = (rndQ (a * 10000000) (fac r s) 1, rndQ (b * 10000000) (fac r s) 2, 0) := by
  obtain ⟨e1, e2, _, _⟩ := to20_small (v := a) (r := r) (h := s) (k := 1) ⟨ha, by omega⟩ hr hs rfl
  obtain ⟨e3, e4, _, _⟩ := to20_small (v := b) (r := r) (h := s) (k := 2) ⟨by omega, hb⟩ hr hs rfl
  have a1 : thermal_amount a = true := by rw [amount_eq]; exact amt_of ⟨ha, by unfold M; omega⟩
  have a2 : thermal_amount b = true := by rw [amount_eq]; exact amt_of ⟨by omega, by unfold M; omega⟩
  rw [btw3, if_neg (by simp; omega), if_neg (by simp [hr, hs, a1, a2]), e1, e3, if_neg (by decide), e2, e4]
theorem report_eq (l : List Mk) (tol d p h s rise : Int) : spileref15_Report l tol d p h s rise = gauge_Report l tol d p h s rise := by
  unfold spileref15_Report gauge_Report
  by_cases h1 : ((tabE l tol) != (0 : Int)) = true
  · rw [if_pos h1, if_pos h1]
  rw [if_neg h1, if_neg h1]
  have hc : (!(spileref15_IsReading d p h s)) = (gauge_Check d p h s != 0) := by
    rw [← reading_eq]; rfl
  by_cases hw : readE l tol p = 0
  · obtain ⟨w1, w2, w3, w4, w5, w6⟩ := wet_ok hw
    rw [w1]
    simp only
    rw [hc]
    by_cases hk : (gauge_Check d p h s != 0) = true
    · rw [if_pos (by rw [hk]; simp), if_pos (by rw [hk]; simp)]
    have hk := Bool.eq_false_iff.2 hk
    have hh : spileref05_IsHeat h = true := by
      have : spileref15_IsReading d p h s = true := by rw [hk] at hc; simpa using hc
      simp only [spileref15_IsReading, Bool.and_eq_true] at this
      exact this.1.1.2
    by_cases hr : thermal_rises rise = true
    · have hr2 : gauge_in rise 0 10000 = true := hr
      have hf : (spileref05_Factor rise h).2 = 0 := by
        have : 0 ≤ rise ∧ rise ≤ 10000 := by simpa [thermal_rises] using hr
        rw [spileref05_Factor, if_neg (by simp [hh]; omega)]
      rw [hk, hf, hr2]
      simp only [bne_self_eq_false, Bool.or_self, Bool.not_true, Bool.false_eq_true, if_false, Bool.or_false]
      rw [btw_small w2 (by omega) (by omega) hr (by rw [← heat_eq]; exact hh)]
      rfl
    · have hr2 : gauge_in rise 0 10000 = false := Bool.eq_false_iff.2 hr
      have hf : (spileref05_Factor rise h).2 = 2 := by
        rw [spileref05_Factor, if_pos]
        have : ¬ (0 ≤ rise ∧ rise ≤ 10000) := fun h => hr (by simp [thermal_rises]; omega)
        simp
        left
        omega
      rw [hf, hr2]
      simp
  · rw [wet_bad hw]
    simp only
    rw [if_pos (by simp [hw]), if_pos (by simp [hw])]
theorem apM : ApT Try.prog 22 55 2 16 (.agg #[I 0, I 0]) := ⟨by kernel_rfl, by kernel_rfl, rfl, by decide⟩
theorem copy_any (A : Option Addr) (c : Nat) (l : List Mk) (tol : Int) (w : World) (hl : RdRow w A l.length 2 (elM l)) (hm : l.length ≤ 1000000) :
    Calls Try.prog 12 #[.agg #[.slice A l.length c, I tol]] w fun e w' => Ans w w' [.agg [.r l.length 2 (elM l), .p (I tol)]] e ∧ Below w.heap.size w w' := by
  refine enterAns tfine _ Try.func12 rfl 10 Try.ntmps12 [.agg [.inp 1000 A l.length c, .k (I tol)]] [⟨1000, A, 2, l.length, elM l⟩] rfl rfl ⟨hl, trivial⟩ ⟨⟨.inl ⟨rfl, rfl, rfl⟩, trivial, trivial⟩, trivial⟩ ?_
  refine G.seqR tfine rfl trivial ?_
  refine G.seqDraw hmix [0, 0, 2, 7, 0, 16, 63, 127] [(0, 3), (3, 6), (3, 56), (7, 2)] rfl rfl rfl ?_
  refine GD.emptyOwn tfine 2 (elM l) 0 rfl rfl rfl rfl rfl rfl rfl rfl rfl rfl rfl ?_
  refine GD.more tfine 1 rfl rfl trivial ?_
  refine GD.appendRowNew (elM l) 3 rfl apM rfl rfl rfl rfl rfl rfl rfl rfl rfl rfl rfl (fun k hk => rfl) (fun i hi u hu => by simp [elM] at hu; rcases hu with rfl | rfl <;> rfl) (by unfold maxLen; omega) (by omega) ?_
  refine GD.fin tfine 4 rfl rfl trivial ?_
  exact G.ret (endAns.ret ⟨⟨_, rfl, ⟨rfl, Nat.le_refl _, _, _, rfl, Nat.le_refl _, fun i hi => rfl⟩, rfl, trivial⟩, trivial⟩)
end Go.Proofs.Ytiicemgngccicaa
/- The symbolic executor, part AJ: structs of structs, compared. Generic over P. -/
set_option linter.unusedVariables false
set_option linter.unusedSimpArgs false
namespace Go.Sx
open Go.RowKit
theorem part_struct {P : Program} {t : TypeId} {gs : Array Field} {k : Nat} (hu : P.underlying t = some (.struct gs)) (hi : (P.info? t).map (·.size) = some k) (xs : Array Value) (off : Nat) (w : World) : (part t xs off).run P w = .ok (.agg (xs.extract off (off + k))) w := by
  cases hx : P.info? t with
  | none => rw [hx] at hi; cases hi
  | some i =>
    rw [hx] at hi
    have hi : i.size = k := by simpa using hi
    subst hi
    simp [part, isAgg, run_underlying hu, sizeOf, typeInfo, hx, Result.andThen]
def nestOK (P : Program) : Nat → List Field → List (List Value) → List (List Value) → Prop
  | _, [], [], [] => True
  | i, f :: fs, X :: XS, Y :: YS => f.name ≠ "_" ∧ f.offset = i ∧ X.length = Y.length ∧ (∃ gs, P.underlying f.type = some (.struct gs) ∧ P.stoodInHeld f.type = false ∧ flatF P 0 gs.toList = true ∧ fitL P gs.toList X Y = true) ∧ (P.info? f.type).map (·.size) = some X.length ∧ nestOK P (i + X.length) fs XS YS
  | _, _, _, _ => False
def nestB (P : Program) : Nat → List Field → List (List Value) → List (List Value) → Bool
  | _, [], [], [] => true
  | i, f :: fs, X :: XS, Y :: YS => (f.name != "_") && (Nat.beq f.offset i && (Nat.beq X.length Y.length && ((match P.underlying f.type with | some (.struct gs) => !(P.stoodInHeld f.type) && (flatF P 0 gs.toList && fitL P gs.toList X Y) | _ => false) && ((match P.info? f.type with | some q => Nat.beq q.size X.length | none => false) && nestB P (i + X.length) fs XS YS))))
  | _, _, _, _ => false
theorem nestB_ok {P : Program} : ∀ (i : Nat) (fs : List Field) (XS YS : List (List Value)), nestB P i fs XS YS = true → nestOK P i fs XS YS
  | _, [], [], [], _ => trivial
  | i, f :: fs, X :: XS, Y :: YS, h => by
    simp only [nestB, Bool.and_eq_true] at h
    obtain ⟨h1, h2, h3, h4, h5, h6⟩ := h
    refine ⟨by simpa using h1, Nat.eq_of_beq_eq_true h2, Nat.eq_of_beq_eq_true h3, ?_, ?_, nestB_ok _ _ _ _ h6⟩
    · split at h4
      · rename_i gs hu
        simp only [Bool.and_eq_true, Bool.not_eq_true'] at h4
        exact ⟨gs, hu, h4.1, h4.2.1, h4.2.2⟩
      · cases h4
    · split at h5
      · rename_i q hq
        rw [hq]
        simpa using Nat.eq_of_beq_eq_true h5
      · cases h5
  | _, [], [], _ :: _, h => by cases h
  | _, [], _ :: _, _, h => by cases h
  | _, _ :: _, [], _, h => by cases h
  | _, _ :: _, _ :: _, [], h => by cases h
def eqLL : List (List Value) → List (List Value) → Bool
  | X :: XS, Y :: YS => eqL X Y && eqLL XS YS
  | _, _ => true
theorem cut_mid {pre X rest : List Value} {i : Nat} (h : pre.length = i) : (pre ++ (X ++ rest)).toArray.extract i (i + X.length) = X.toArray := by
  subst h
  simp
theorem run_eqFieldsN {P : Program} (d : Nat) : ∀ (fs : List Field) (i : Nat) (pre pre' : List Value) (XS YS : List (List Value)), pre.length = i → pre'.length = i → nestOK P i fs XS YS → ∀ w : World, (Op.eqFields (d + 2) (pre ++ XS.flatten).toArray (pre' ++ YS.flatten).toArray fs).run P w = .ok (eqLL XS YS) w
  | [], i, pre, pre', [], [], _, _, _, w => by simp [Op.eqFields, eqLL]
  | [], i, pre, pre', _ :: _, _, _, _, h, w => h.elim
  | [], i, pre, pre', [], _ :: _, _, _, h, w => h.elim
  | _ :: _, i, pre, pre', [], _, _, _, h, w => h.elim
  | _ :: _, i, pre, pre', _ :: _, [], _, _, h, w => h.elim
  | f :: fs, i, pre, pre', X :: XS, Y :: YS, hp, hp', h, w => by
    obtain ⟨hn, ho, hl, ⟨gs, hu, hs, hf, hx⟩, hi, hr⟩ := h
    have ih := run_eqFieldsN d fs (i + X.length) (pre ++ X) (pre' ++ Y) XS YS (by simp [hp]) (by simp [hp', hl]) hr w
    rw [List.append_assoc, List.append_assoc] at ih
    have hS : P.fieldsOf f.type = gs := by rw [Program.fieldsOf, hu]
    have e : (Op.equalIn (d + 1 + 1) f.type (.agg X.toArray) (.agg Y.toArray)).run P w = .ok (eqL X Y) w := by
      rw [run_equalIn_agg w (d + 1) f.type _ _ (by rw [hS]; exact hu) hs, hS]
      exact run_eqFields d gs.toList 0 [] [] X Y rfl rfl hf hx w
    simp only [List.flatten_cons]
    simp only [Op.eqFields, if_pos hn, Sem.run_bind, part_struct hu hi, ho, cut_mid hp, Result.andThen_ok]
    rw [hl, cut_mid hp', e]
    simp only [Result.andThen_ok]
    rw [eqLL]
    cases eqL X Y with
    | false => simp
    | true => simpa using ih
structure CmpV (P : Program) (t : TypeId) (X Y : List Value) (r : Bool) : Prop where
  guard : P.eqGuardType P.depth t = false
  run : ∀ w : World, (Op.equalIn 10000 t (.agg X.toArray) (.agg Y.toArray)).run P w = .ok r w
theorem cmpV_nest {P : Program} {t : TypeId} {fs : Array Field} {X Y : List Value} {r : Bool} (XS YS : List (List Value)) (hu : P.underlying t = some (.struct fs)) (hs : P.stoodInHeld t = false) (hg : P.eqGuardType P.depth t = false) (hX : X = XS.flatten) (hY : Y = YS.flatten) (h : nestOK P 0 fs.toList XS YS) (hr : eqLL XS YS = r) : CmpV P t X Y r := by
  refine ⟨hg, fun w => ?_⟩
  have hS : P.fieldsOf t = fs := by rw [Program.fieldsOf, hu]
  subst hX hY hr
  rw [show (10000 : Nat) = 9999 + 1 from rfl, run_equalIn_agg w 9999 t _ _ (by rw [hS]; exact hu) hs, hS]
  exact run_eqFieldsN 9997 fs.toList 0 [] [] XS YS rfl rfl h w
section
variable {P : Program} {E : Env} {K : Exit → St → Prop} {T : Tab}
def negR (neg r : Bool) : Bool := match neg with
  | false => r
  | true => !r
theorem exec_structEqV {t t' : TypeId} {y z : Operand} {o : Oper} {X Y : List Value} {r : Bool} (neg : Bool) (hop : o.op = .binOp (eqOp neg) t y z t') (hc : CmpV P t X Y r) {η : Operand → Value} (hy : η y = .agg X.toArray) (hz : η z = .agg Y.toArray) (w : World) :
    (execOp η o).run P w = .ok (.value (.bool (negR neg r))) w := by
  cases neg
  · simp only [execOp, hop, eqOp, negR, hy, hz, Sem.run_bind, run_eqGuard_agg w .eql t y z _ _ hc.guard, Result.andThen_ok, run_eql_struct, hc.run w, Sem.run_pure]
  · simp only [execOp, hop, eqOp, negR, hy, hz, Sem.run_bind, run_eqGuard_agg w .neq t y z _ _ hc.guard, Result.andThen_ok, run_neq_struct, hc.run w, Sem.run_pure]
theorem Steps.structEqV {ops : Array Oper} {o : Oper} {t t' : TypeId} {y z : Operand} {C : St} (neg : Bool) (X Y : List Value) {r : Bool} (hg : o.guard = none) (hop : o.op = .binOp (eqOp neg) t y z t') (hy : evT C.t y = .v (.agg (X.map .k))) (hz : evT C.t z = .v (.agg (Y.map .k))) (hd : dstOk E.N o.dst = true)
    (hc : CmpV P t X Y r) : Steps P E ops o C (.v (.c (.k (.bool (negR neg r))))) [] := by
  intro st hle ρ a w hs Kc Q hk
  have hs' := hs.weakT hle.t
  rw [if_pos (by simp [Region.wanted, hg])]
  have e1 : a.eval y = .agg X.toArray := by have := hs'.eval y; rw [show (St.mk C.t st.m).ev y = .v (.agg (X.map .k)) from hy] at this; rw [← map_k_conc ρ]; exact this.2
  have e2 : a.eval z = .agg Y.toArray := by have := hs'.eval z; rw [show (St.mk C.t st.m).ev z = .v (.agg (Y.map .k)) from hz] at this; rw [← map_k_conc ρ]; exact this.2
  exact Snd.go hs (dstOk_lt hd) (tv := .v (.c (.k (.bool (negR neg r))))) (Snd.here hs.mem (v := .bool (negR neg r)) (exec_structEqV neg hop hc e1 e2 w) ⟨trivial, rfl⟩) fun ρ' a' w' hs'' => hk ρ' a' w' hs''
theorem Steps.structEqGV {ops : Array Oper} {o : Oper} {t t' : TypeId} {y z : Operand} {C : St} {j : Nat} {want cb : Bool} (neg : Bool) (X Y : List Value) {r : Bool} (hg : o.guard = some (j, want)) (hb : guardB ops C.t j want = some cb) (hop : o.op = .binOp (eqOp neg) t y z t')
    (hob : AllP (stripObs C.t j want cb (slotsOf o.op.operands.toList)))
    (hy : evG C.t j want (slotsOf o.op.operands.toList) y = .v (.agg (X.map .k))) (hz : evG C.t j want (slotsOf o.op.operands.toList) z = .v (.agg (Y.map .k))) (hd : dstOk E.N o.dst = true)
    (hc : CmpV P t X Y r) : Steps P E ops o C (.grd j want cb (.c (.k (.bool (negR neg r))))) [] := by
  intro st hle ρ a w hs Kc Q hk
  have hs' := hs.weakT hle.t
  have hw := wanted_cond (ops := ops) hs' hg hb
  rw [hw]
  cases hcb : cb with
  | true =>
    subst hcb
    rw [if_pos rfl]
    have hev := fun y => evG_rep hs' hob rfl y
    have e1 : a.eval y = .agg X.toArray := by have := hev y; rw [hy] at this; rw [← map_k_conc ρ]; exact this.2
    have e2 : a.eval z = .agg Y.toArray := by have := hev z; rw [hz] at this; rw [← map_k_conc ρ]; exact this.2
    exact Snd.go hs (dstOk_lt hd) (tv := .grd j want true (.c (.k (.bool (negR neg r))))) (Snd.here hs.mem (v := .bool (negR neg r)) (exec_structEqV neg hop hc e1 e2 w) ⟨fun _ => ⟨trivial, rfl⟩, fun hf => by cases hf⟩) fun ρ' a' w' hs'' => hk ρ' a' w' hs''
  | false =>
    subst hcb
    rw [if_neg (by simp)]
    exact hk ρ _ w (hs.putT (dstOk_lt hd) ⟨fun hf => (by cases hf), fun _ => rfl⟩)
theorem GO.structEqV {ops : Array Oper} {rest : List Oper} {o : Oper} {t t' : TypeId} {y z : Operand} {tt : Nat → TV} {m : Mem} (neg : Bool) (X Y : List Value) (r : Bool) (hc : CmpV P t X Y r) (hg : o.guard = none) (hop : o.op = .binOp (eqOp neg) t y z t') (hy : evT tt y = .v (.agg (X.map .k))) (hz : evT tt z = .v (.agg (Y.map .k))) (hd : dstOk E.N o.dst = true)
    (k : GO P E ops K rest ⟨Sx.putT tt o.dst (.v (.c (.k (.bool (negR neg r))))), m⟩) : GO P E ops K (o :: rest) ⟨tt, m⟩ :=
  GO.steps (Steps.structEqV (C := ⟨tt, m⟩) neg X Y hg hop hy hz hd hc) k
theorem GD.structEqGV {l : List Oper} {cls : List Nat} {X0 : List (Nat × Nat)} {base : St} {recs : List DR} {o : Oper} {rest : List Oper} {tt : Nat → TV} {m : Mem} {t t' : TypeId} {y z : Operand} {j : Nat} {want cb : Bool} (neg : Bool) (X Y : List Value) (r : Bool) (hc : CmpV P t X Y r) (i : Nat) (hi : recs.length = i) (hg : o.guard = some (j, want)) (hb : guardB l.toArray (canF l cls X0 base i recs).t j want = some cb) (hop : o.op = .binOp (eqOp neg) t y z t')
    (hob : AllP (stripObs (canF l cls X0 base i recs).t j want cb (slotsOf o.op.operands.toList)))
    (hy : evG (canF l cls X0 base i recs).t j want (slotsOf o.op.operands.toList) y = .v (.agg (X.map .k))) (hz : evG (canF l cls X0 base i recs).t j want (slotsOf o.op.operands.toList) z = .v (.agg (Y.map .k))) (hd : dstOk E.N o.dst = true)
    (k : GD P E K l cls X0 base (⟨o, .grd j want cb (.c (.k (.bool (negR neg r)))), []⟩ :: recs) rest (Sx.putT tt o.dst (.grd j want cb (.c (.k (.bool (negR neg r)))))) m) : GD P E K l cls X0 base recs (o :: rest) tt m := by
  rw [canF_eq hi] at hb hob hy hz
  exact GD.step (Steps.structEqGV neg X Y hg hb hop hob hy hz hd hc) rfl k
end
end Go.Sx
/- Chapter 15: the law GaugeReports. -/
set_option linter.unusedVariables false
set_option linter.unusedSimpArgs false
set_option maxRecDepth 8000
set_option maxHeartbeats 1000000
namespace Go.Proofs.Ytiicemgngccicaa
open Go.Sx Go.RowKit
theorem cmpRep (a1 a2 a3 a4 a5 a6 a7 a8 b1 b2 b3 b4 b5 b6 b7 b8 : Int) : CmpV Try.prog 36 [I a1, I a2, I a3, I a4, I a5, I a6, I a7, I a8] [I b1, I b2, I b3, I b4, I b5, I b6, I b7, I b8] (((a1 == b1) && ((a2 == b2) && ((a3 == b3) && (a4 == b4)))) && (((a5 == b5) && (a6 == b6)) && ((((a7 == b7) && (a8 == b8))) && true))) :=
  cmpV_nest (fs := Try.prog.fieldsOf 36) [[I a1, I a2, I a3, I a4], [I a5, I a6], [I a7, I a8]] [[I b1, I b2, I b3, I b4], [I b5, I b6], [I b7, I b8]] (by kernel_rfl) (by kernel_rfl) (by kernel_rfl) rfl rfl (nestB_ok _ _ _ _ (by kernel_rfl)) rfl
theorem few13_any (A0_0 : Option Addr) (c0_0 : Nat) (l0_0 : List (Int × Int)) (x0_1 : Int) (w : World) (hl_l0_0 : RdRow w A0_0 l0_0.length 2 (elM l0_0)) : Calls Try.prog 10 #[.agg #[.slice A0_0 l0_0.length c0_0, I x0_1]] w fun e w' => e = .returned (.bool (spileref13_Few l0_0 x0_1)) ∧ Below w.heap.size w w' := by
  refine enterPlain tfine Try.func10 rfl 7 Try.ntmps10 [.agg [.inp 1000 A0_0 l0_0.length c0_0, .k (I x0_1)]] [⟨1000, A0_0, 2, l0_0.length, elM l0_0⟩] rfl rfl ⟨hl_l0_0, trivial⟩ ⟨⟨.inl ⟨rfl, rfl, rfl⟩, trivial, trivial⟩, trivial⟩ ?_
  refine G.seqR tfine rfl ?_ ?_
  · first | trivial | (simp [AllP, condB]; done) | (simp only [AllP]; and_intros <;> first | trivial | decide | omega) | (simp [AllP, condB]; intros; and_intros <;> first | assumption | omega)
  refine G.seqR tfine rfl ?_ ?_
  · first | trivial | (simp [AllP, condB]; done) | (simp only [AllP]; and_intros <;> first | trivial | decide | omega) | (simp [AllP, condB]; intros; and_intros <;> first | assumption | omega)
  refine G.ret (endK.ret rfl ?_)
  first | (rw [spileref13_Few]; done) | (rw [spileref13_Few]; rfl)
theorem GaugeReports_any (A : Option Addr) (c : Nat) (l : List Mk) (tol d p h s rise : Int) (w : World) (hl : RdRow w A l.length 2 (elM l)) :
    Calls Try.prog 3 #[.agg #[.slice A l.length c, I tol], .agg #[I d, I p, I h, I s], I rise] w fun e w' => e = .returned (.bool true) ∧ Below w.heap.size w w' := by
  refine enterPlain tfine Try.func3 rfl 75 Try.ntmps3 [.agg [.inp 1000 A l.length c, .k (I tol)], .agg [.k (I d), .k (I p), .k (I h), .k (I s)], .c (.k (I rise))] [⟨1000, A, 2, l.length, elM l⟩] rfl rfl ⟨hl, trivial⟩ ⟨⟨.inl ⟨rfl, rfl, rfl⟩, trivial, trivial⟩, ⟨trivial, trivial, trivial, trivial, trivial⟩, trivial, trivial⟩ ?_
  refine G.seqR tfine rfl trivial ?_
  refine G.seq ?_
  refine G.seqC tfine rfl trivial ?_
  refine GO.callPlain (v := .bool true) rfl rfl rfl rfl (fun args w => Try.call9 args w) (fun ρ w hs hok => awake_any w) ?_
  refine GO.fin tfine rfl trivial ?_
  refine G.cond_false rfl ?_
  refine G.skip ?_
  refine G.seq ?_
  refine G.seqC tfine rfl trivial ?_
  refine GO.callPlain (v := .bool (spileref13_Few l tol)) rfl rfl rfl rfl (fun args w => Try.call10 args w) (fun ρ w hs hok => few13_any A c l tol w (hs.row (cap := c) rfl (hok _ List.mem_cons_self _ List.mem_cons_self))) ?_
  refine GO.fin tfine rfl trivial ?_
  refine G.cond (b := !(spileref13_Few l tol)) rfl (fun h1 => ?_) (fun h1 => ?_)
  · refine G.seqR tfine rfl trivial ?_
    exact G.ret (endK.ret rfl rfl)
  have hm : l.length ≤ 129 := by
    simp [spileref13_Few] at h1
    omega
  refine G.skip ?_
  obtain ⟨⟨wl, wh, we⟩, hw⟩ : ∃ y, y = wet3 l tol p := ⟨_, rfl⟩
  obtain ⟨⟨r1, r2, r3, r4, r5, r6, r7, r8, re⟩, hr⟩ : ∃ y, y = gauge_Report l tol d p h s rise := ⟨_, rfl⟩
  refine G.seqDraw hmix [0, 1, 0, 4, 15, 31, 63, 63, 0, 383, 1023] [(1, 800), (1, 850), (8, 7), (9, 7)] rfl rfl rfl ?_
  refine GD.more tfine 0 rfl rfl trivial ?_
  refine GD.callAns [.agg [.r l.length 2 (elM l), .p (I tol)]] [800] 1 rfl rfl rfl rfl rfl ⟨rfl, rfl, rfl, trivial⟩ rfl (fun args w => Try.call12 args w) (fun m' hle ρ w hs hok => copy_any A c l tol w (hs.row (cap := c) (hle.at rfl) (hok _ List.mem_cons_self _ List.mem_cons_self)) (by omega)) ?_
  refine GD.more tfine 2 rfl rfl trivial ?_
  refine GD.call (v := .tuple #[.agg #[I wl, I wh], I we]) 4 rfl rfl rfl rfl rfl (fun args w => Try.call11 args w) (fun m' hle ρ w hs hok => ?_) ?_
  · have := wet_any (rowAd ρ 800) (ρ 850).1 l tol p w (hs.rowR (hle.at rfl) (hok _ List.mem_cons_self _ List.mem_cons_self) (Nat.le_refl _)) (by omega)
    rw [← hw] at this
    exact this
  refine GD.fin tfine 5 rfl rfl trivial ?_
  refine G.seqC tfine rfl trivial ?_
  refine GO.callPlain (v := .tuple #[.agg #[I wl, I wh], I we]) rfl rfl rfl rfl (fun args w => Try.call13 args w) (fun ρ w hs hok => ?_) ?_
  · have := refWet_any A c l tol p w (hs.row (cap := c) rfl (hok _ List.mem_cons_self _ List.mem_cons_self)) (by omega)
    rw [← hw] at this
    exact this
  refine GO.fin tfine rfl trivial ?_
  refine G.seqDraw hmix [0, 1, 0, 0, 15, 31, 63, 63, 0, 383, 1023] [(1, 801), (1, 851), (8, 11), (9, 11)] rfl rfl rfl ?_
  refine GD.more tfine 0 rfl rfl trivial ?_
  refine GD.callAns [.agg [.r l.length 2 (elM l), .p (I tol)]] [801] 1 rfl rfl rfl rfl rfl ⟨rfl, rfl, rfl, trivial⟩ rfl (fun args w => Try.call12 args w) (fun m' hle ρ w hs hok => copy_any A c l tol w (hs.row (cap := c) (hle.at rfl) (hok _ List.mem_cons_self _ List.mem_cons_self)) (by omega)) ?_
  refine GD.more tfine 2 rfl rfl trivial ?_
  refine GD.call (v := .tuple #[.agg #[I r1, I r2, I r3, I r4, I r5, I r6, I r7, I r8], I re]) 4 rfl rfl rfl rfl rfl (fun args w => Try.call14 args w) (fun m' hle ρ w hs hok => ?_) ?_
  · have := gauge_Report_any (rowAd ρ 801) (ρ 851).1 l tol d p h s rise w (hs.rowR (hle.at rfl) (hok _ List.mem_cons_self _ List.mem_cons_self) (Nat.le_refl _)) (by omega)
    rw [← hr] at this
    exact this
  refine GD.fin tfine 5 rfl rfl trivial ?_
  refine G.seqC tfine rfl trivial ?_
  refine GO.callPlain (v := .tuple #[.agg #[I r1, I r2, I r3, I r4, I r5, I r6, I r7, I r8], I re]) rfl rfl rfl rfl (fun args w => Try.call15 args w) (fun ρ w hs hok => ?_) ?_
  · have := spileref15_Report_any A c l tol d p h s rise w (hs.row (cap := c) rfl (hok _ List.mem_cons_self _ List.mem_cons_self)) (by omega)
    rw [report_eq, ← hr] at this
    exact this
  refine GO.fin tfine rfl trivial ?_
  refine G.seqDraw hmix [0, 0, 3, 7, 15, 15, 63, 127, 255, 511, 511, 2047, 4095, 8191, 16383, 16383, 65535, 131071, 262143, 524287, 1048575, 524287, 4194303, 8388607, 16777215, 33554431] [] rfl rfl rfl ?_
  refine GD.more tfine 0 rfl rfl trivial ?_
  refine GD.structEq false [I wl, I wh] [I wl, I wh] ((wl == wl) && (wh == wh)) rfl cmp_api_Bounds 2 rfl rfl rfl rfl rfl rfl (by kernel_rfl) ?_
  refine GD.more tfine 3 rfl rfl ?_ ?_
  · first | trivial | (simp [AllP, condB]; done) | (simp only [AllP]; and_intros <;> first | trivial | decide | omega) | (simp [AllP, condB]; intros; and_intros <;> first | assumption | omega) | (simp [AllP, condB]; intros; simp_all; done) | (simp [AllP, condB]; intros; simp_all; omega) | (simp [AllP, condB]; omega)
  refine GD.structEqGV false [I r1, I r2, I r3, I r4, I r5, I r6, I r7, I r8] [I r1, I r2, I r3, I r4, I r5, I r6, I r7, I r8] _ (cmpRep _ _ _ _ _ _ _ _ _ _ _ _ _ _ _ _) 11 rfl rfl rfl rfl (by first | exact trivial | exact ⟨id, trivial⟩ | exact ⟨id, id, trivial⟩ | exact ⟨id, id, id, trivial⟩ | exact ⟨id, id, id, id, trivial⟩) rfl rfl rfl ?_
  refine GD.more tfine 12 rfl rfl ?_ ?_
  · first | trivial | (simp [AllP, condB]; done) | (simp only [AllP]; and_intros <;> first | trivial | decide | omega) | (simp [AllP, condB]; intros; and_intros <;> first | assumption | omega) | (simp [AllP, condB]; intros; simp_all; done) | (simp [AllP, condB]; intros; simp_all; omega) | (simp [AllP, condB]; omega)
  refine GD.callGuard (I (gauge_Check d p h s)) 20 rfl rfl rfl rfl (by first | exact trivial | exact ⟨id, trivial⟩ | exact ⟨id, id, trivial⟩ | exact ⟨id, id, id, trivial⟩ | exact ⟨id, id, id, id, trivial⟩) rfl rfl (fun args w => Try.call16 args w) rfl (fun _ m' hle ρ w hs hok => gauge_Check_any d p h s w) ?_
  refine GD.more tfine 21 rfl rfl ?_ ?_
  · first | trivial | (simp [AllP, condB]; done) | (simp only [AllP]; and_intros <;> first | trivial | decide | omega) | (simp [AllP, condB]; intros; and_intros <;> first | assumption | omega) | (simp [AllP, condB]; intros; simp_all; done) | (simp [AllP, condB]; intros; simp_all; omega) | (simp [AllP, condB]; omega)
  refine GD.callGuard (I (gauge_Check d p h s)) 22 rfl rfl rfl rfl (by first | exact trivial | exact ⟨id, trivial⟩ | exact ⟨id, id, trivial⟩ | exact ⟨id, id, id, trivial⟩ | exact ⟨id, id, id, id, trivial⟩) rfl rfl (fun args w => Try.call17 args w) rfl (fun _ m' hle ρ w hs hok => ?_) ?_
  · have := spileref15_Check_any d p h s w
    have e : spileref15_Check d p h s = gauge_Check d p h s := by
      have := reading_eq d p h s
      unfold spileref15_Check
      rw [← this]
      unfold gauge_Check
      split <;> rfl
    rw [e] at this
    exact this
  refine GD.fin tfine 23 rfl rfl ?_ ?_
  · first | trivial | (simp [AllP, condB]; done) | (simp only [AllP]; and_intros <;> first | trivial | decide | omega) | (simp [AllP, condB]; intros; and_intros <;> first | assumption | omega) | (simp [AllP, condB]; intros; simp_all; done) | (simp [AllP, condB]; intros; simp_all; omega) | (simp [AllP, condB]; omega)
  refine G.ret (endK.ret rfl ?_)
  simp [negR]
theorem rowMk {w : World} {A : Option Addr} {ess : List (List Value)} {d : Nat} (hr : RdRow w A ess.length 2 (fun i => ess.getD i [])) (hw : ∀ es ∈ ess, LeafAll (Leaf.says w (d + 1)) [.int .i64, .int .i64] es) :
    ∃ l : List Mk, l.length = ess.length ∧ RdRow w A l.length 2 (elM l) := by
  obtain ⟨l, h1, h2⟩ := pick_list (β := Int × Int) (p := fun x es => es = [I x.1, I x.2]) (l := ess) fun es he => by
    obtain ⟨_, _, rfl, ⟨a0, rfl, _⟩, e0⟩ := (hw es he).cons
    obtain ⟨_, _, rfl, ⟨a1, rfl, _⟩, e1⟩ := e0.cons
    obtain rfl := e1.nil
    exact ⟨(a0, a1), rfl⟩
  refine ⟨l, h1, ?_⟩
  rw [h1]
  refine hr.congr fun i hi => ?_
  rw [List.getD_eq_getElem?_getD, List.getElem?_eq_getElem hi]
  exact (h2 i hi).symm
theorem GaugeReports_row (A : Option Addr) (c : Nat) (ess : List (List Value)) (tol d p h s rise : Int) (w : World) (hr : RdRow w A ess.length 2 (fun i => ess.getD i [])) (hn : A = none → ess.length = 0) (hm : ess.length ≤ maxLen) (hw : ∀ es ∈ ess, LeafAll (Leaf.says w 3) [.int .i64, .int .i64] es) :
    Calls Try.prog 3 #[.agg #[.slice A ess.length c, I tol], .agg #[I d, I p, I h, I s], I rise] w fun e w' => e = .returned (.bool true) ∧ Below w.heap.size w w' := by
  obtain ⟨l, h1, h2⟩ := rowMk hr hw
  rw [← h1]
  exact GaugeReports_any A c l tol d p h s rise w h2
end Go.Proofs.Ytiicemgngccicaa
/- Chapter 15: the law GaugeRight. -/
set_option linter.unusedVariables false
set_option linter.unusedSimpArgs false
set_option maxRecDepth 8000
set_option maxHeartbeats 1000000
namespace Go.Proofs.Ytiicemgngccicaa
open Go.Sx Go.RowKit
/-- What a report says that is none of an error. -/
structure RepOk (l : List Mk) (tol d p h s rise r1 r2 r3 r4 r5 r6 r7 r8 : Int) : Prop where
  read : readE l tol p = 0
  chk : gauge_Check d p h s = 0
  ris : thermal_rises rise = true
  heat : thermal_heat h = true
  dip : 0 ≤ p ∧ p ≤ 200000
  e1 : r1 = d
  e2 : r2 = p
  e3 : r3 = h
  e4 : r4 = s
  e5 : r5 = rndQ (lowV l p * 10000000) (fac rise h) 1
  e6 : r6 = rndQ (((l.getD (idx l p) (0, 0)).2 + tol) * 10000000) (fac rise h) 2
  e7 : r7 = (gauge_times r5 r6 s).1
  e8 : r8 = (gauge_times r5 r6 s).2
theorem rep_ok {l : List Mk} {tol d p h s rise r1 r2 r3 r4 r5 r6 r7 r8 : Int} (hr : gauge_Report l tol d p h s rise = (r1, r2, r3, r4, r5, r6, r7, r8, 0)) : RepOk l tol d p h s rise r1 r2 r3 r4 r5 r6 r7 r8 := by
  unfold gauge_Report at hr
  split at hr
  · injection hr with _ hr; injection hr with _ hr; injection hr with _ hr; injection hr with _ hr; injection hr with _ hr; injection hr with _ hr; injection hr with _ hr; injection hr with _ hr; cases hr
  rename_i h1
  split at hr
  · injection hr with _ hr; injection hr with _ hr; injection hr with _ hr; injection hr with _ hr; injection hr with _ hr; injection hr with _ hr; injection hr with _ hr; injection hr with _ hr; cases hr
  rename_i h2
  simp only [Bool.or_eq_true, not_or, bne_iff_ne, ne_eq, Decidable.not_not, Bool.not_eq_true', Bool.not_eq_false] at h2
  obtain ⟨⟨h2, h3⟩, h4⟩ := h2
  have hz : readE l tol p = 0 := by
    by_cases hz : readE l tol p = 0
    · exact hz
    · rw [wet_bad hz] at h2
      exact absurd h2 hz
  obtain ⟨w1, w2, w3, w4, w5, w6⟩ := wet_ok hz
  have hris : thermal_rises rise = true := h4
  have hk : (gauge_in p 0 200000 = true) ∧ gauge_in h (-400) 600 = true := by
    unfold gauge_Check at h3
    split at h3
    · cases h3
    · rename_i h5
      simp only [Bool.or_eq_true, Bool.not_eq_true', not_or, Bool.not_eq_false] at h5
      exact ⟨h5.1.1.2, h5.1.2⟩
  have hh : thermal_heat h = true := hk.2
  have hp : 0 ≤ p ∧ p ≤ 200000 := by simpa [gauge_in] using hk.1
  rw [w1] at hr
  simp only at hr
  rw [btw_small w2 (by omega) (by omega) hris hh] at hr
  simp only [bne_self_eq_false, Bool.false_eq_true, if_false] at hr
  injection hr with q1 hr
  injection hr with q2 hr
  injection hr with q3 hr
  injection hr with q4 hr
  injection hr with q5 hr
  injection hr with q6 hr
  injection hr with q7 hr
  injection hr with q8 hr
  exact ⟨hz, h3, hris, hh, hp, q1.symm, q2.symm, q3.symm, q4.symm, q5.symm, q6.symm, by rw [← q5, ← q6]; exact q7.symm, by rw [← q5, ← q6]; exact q8.symm⟩
theorem rep_err {l : List Mk} {tol d p h s rise r1 r2 r3 r4 r5 r6 r7 r8 re : Int} (hr : gauge_Report l tol d p h s rise = (r1, r2, r3, r4, r5, r6, r7, r8, re)) (he : re ≠ 0) : r1 = 0 ∧ r2 = 0 ∧ r3 = 0 ∧ r4 = 0 ∧ r5 = 0 ∧ r6 = 0 ∧ r7 = 0 ∧ r8 = 0 := by
  unfold gauge_Report at hr
  split at hr
  · injection hr with q1 hr; injection hr with q2 hr; injection hr with q3 hr; injection hr with q4 hr; injection hr with q5 hr; injection hr with q6 hr; injection hr with q7 hr; injection hr with q8 hr
    exact ⟨q1.symm, q2.symm, q3.symm, q4.symm, q5.symm, q6.symm, q7.symm, q8.symm⟩
  split at hr
  · injection hr with q1 hr; injection hr with q2 hr; injection hr with q3 hr; injection hr with q4 hr; injection hr with q5 hr; injection hr with q6 hr; injection hr with q7 hr; injection hr with q8 hr
    exact ⟨q1.symm, q2.symm, q3.symm, q4.symm, q5.symm, q6.symm, q7.symm, q8.symm⟩
  split at hr
  · injection hr with q1 hr; injection hr with q2 hr; injection hr with q3 hr; injection hr with q4 hr; injection hr with q5 hr; injection hr with q6 hr; injection hr with q7 hr; injection hr with q8 hr
    exact ⟨q1.symm, q2.symm, q3.symm, q4.symm, q5.symm, q6.symm, q7.symm, q8.symm⟩
  · injection hr with q1 hr; injection hr with q2 hr; injection hr with q3 hr; injection hr with q4 hr; injection hr with q5 hr; injection hr with q6 hr; injection hr with q7 hr; injection hr with q8 hr
    exact absurd hr.symm he
theorem rnd_mono {x y c k : Int} (hc : 1 ≤ c) (h : x ≤ y) : rndQ x c k ≤ rndQ y c k := rnd_frac hc hc (Int.mul_le_mul_of_nonneg_right h (by omega))
theorem rnd_less {x c e k : Int} (hx : 0 ≤ x) (hc : 1 ≤ c) (h : c ≤ e) : rndQ x e k ≤ rndQ x c k := rnd_frac (by omega) hc (Int.mul_le_mul_of_nonneg_left h hx)
theorem RepOk.right {l : List Mk} {tol d p h s rise r1 r2 r3 r4 r5 r6 r7 r8 : Int} (o : RepOk l tol d p h s rise r1 r2 r3 r4 r5 r6 r7 r8) : gauge_Right r1 r2 r3 r4 r5 r6 r7 r8 = true := by
  obtain ⟨w1, w2, w3, w4, w5, w6⟩ := wet_ok o.read
  obtain ⟨_, _, b1, b2⟩ := to20_small (v := lowV l p) (r := rise) (h := h) (k := 1) ⟨w2, by omega⟩ o.ris o.heat rfl
  obtain ⟨_, _, b3, b4⟩ := to20_small (v := (l.getD (idx l p) (0, 0)).2 + tol) (r := rise) (h := h) (k := 2) ⟨by omega, by omega⟩ o.ris o.heat rfl
  have hf := fac_bd o.ris o.heat
  have h1 : r5 ≤ r6 := by
    rw [o.e5, o.e6]
    exact Int.le_trans (rnd_down (k := 2)) (rnd_mono (by omega) (by omega))
  have := o.e1; have := o.e2; have := o.e3; have := o.e4
  subst r1 r2 r3 r4
  unfold gauge_Right
  rw [o.chk, o.e7, o.e8]
  have h5 : 0 ≤ r5 := by rw [o.e5]; exact b1
  have h6 : r6 ≤ 34359738368 := by rw [o.e6]; exact b4
  simp
  omega
theorem lowV_mono {l : List Mk} {tol p q : Int} (hp : readE l tol p = 0) (hq : readE l tol q = 0) (hpq : p ≤ q) : lowV l p ≤ lowV l q ∧ (l.getD (idx l p) (0, 0)).2 ≤ (l.getD (idx l q) (0, 0)).2 := by
  have ok := tab_ok (readE_ok hp).1
  obtain ⟨a1, a2, a3⟩ := idx_spec hp
  obtain ⟨b1, b2, b3⟩ := idx_spec hq
  have hij : idx l p ≤ idx l q := by
    by_cases h : idx l p ≤ idx l q
    · exact h
    · have := a3 (idx l q) (by omega)
      omega
  have hm := ok.mono hij b1
  refine ⟨?_, hm.2⟩
  have hwp := (wet_ok hp).2.2.1
  by_cases e : idx l p = idx l q
  · unfold lowV
    rw [← e]
    split
    · rename_i h1
      rw [if_pos (by omega)]
      exact Int.le_refl _
    · split
      · exact (ok.mono (Nat.sub_le _ _) a1).2
      · exact Int.le_refl _
  · have h2 : (l.getD (idx l p) (0, 0)).2 ≤ (l.getD (idx l q - 1) (0, 0)).2 := (ok.mono (by omega) (by omega)).2
    have h3 : lowV l p ≤ (l.getD (idx l p) (0, 0)).2 := hwp
    have h4 : (l.getD (idx l q - 1) (0, 0)).2 ≤ lowV l q := by
      unfold lowV
      split
      · exact (ok.mono (Nat.sub_le _ _) b1).2
      · exact Int.le_refl _
    omega
theorem deep_le {l : List Mk} {tol d p q h s rise r1 r2 r3 r4 r5 r6 r7 r8 t1 t2 t3 t4 t5 t6 t7 t8 : Int} (o : RepOk l tol d p h s rise r1 r2 r3 r4 r5 r6 r7 r8) (o2 : RepOk l tol d q h s rise t1 t2 t3 t4 t5 t6 t7 t8) (hpq : p ≤ q) : r5 ≤ t5 ∧ r6 ≤ t6 := by
  have hf := fac_bd o.ris o.heat
  obtain ⟨h1, h2⟩ := lowV_mono o.read o2.read hpq
  rw [o.e5, o.e6, o2.e5, o2.e6]
  exact ⟨rnd_mono (by omega) (by omega), rnd_mono (by omega) (by omega)⟩
theorem hot_le {l : List Mk} {tol d p h g s rise r1 r2 r3 r4 r5 r6 r7 r8 t1 t2 t3 t4 t5 t6 t7 t8 : Int} (o : RepOk l tol d p h s rise r1 r2 r3 r4 r5 r6 r7 r8) (o2 : RepOk l tol d p g s rise t1 t2 t3 t4 t5 t6 t7 t8) (hg : h ≤ g) : t5 ≤ r5 ∧ t6 ≤ r6 := by
  have hf := fac_bd o.ris o.heat
  obtain ⟨w1, w2, w3, w4, w5, w6⟩ := wet_ok o.read
  have hm := fac_mono hf.1.1 hg
  rw [o.e5, o.e6, o2.e5, o2.e6]
  exact ⟨rnd_less (by omega) (by omega) hm, rnd_less (by omega) (by omega) hm⟩
theorem cmp_api_Reading : CmpT Try.prog 26 (Try.prog.fieldsOf 26) := ⟨by kernel_rfl, by kernel_rfl, by kernel_rfl, by kernel_rfl⟩
theorem u8_bd {n : Int} (h : (Lit.int .u8 n).wf = true) : 0 ≤ n ∧ n ≤ 255 := by
  have h : (decide (IntKind.u8.min ≤ n) && decide (n ≤ IntKind.u8.max)) = true := h
  rw [Bool.and_eq_true] at h
  exact ⟨of_decide_eq_true h.1, of_decide_eq_true h.2⟩
theorem GaugeRight_any (A : Option Addr) (c : Nat) (l : List Mk) (tol d p h s rise m0 m1 : Int) (w : World) (hl : RdRow w A l.length 2 (elM l)) (hm0 : (Lit.int .u8 m0).wf = true) (hm1 : (Lit.int .u8 m1).wf = true) :
    Calls Try.prog 4 #[.agg #[.slice A l.length c, I tol], .agg #[I d, I p, I h, I s], I rise, .agg #[.int .u8 m0, .int .u8 m1]] w fun e w' => e = .returned (.bool true) ∧ Below w.heap.size w w' := by
  have hm0 := u8_bd hm0
  have hm1 := u8_bd hm1
  refine enterPlain tfine Try.func4 rfl 126 Try.ntmps4 [.agg [.inp 1000 A l.length c, .k (I tol)], .agg [.k (I d), .k (I p), .k (I h), .k (I s)], .c (.k (I rise)), .agg [.k (.int .u8 m0), .k (.int .u8 m1)]] [⟨1000, A, 2, l.length, elM l⟩] rfl rfl ⟨hl, trivial⟩ ⟨⟨.inl ⟨rfl, rfl, rfl⟩, trivial, trivial⟩, ⟨trivial, trivial, trivial, trivial, trivial⟩, trivial, ⟨trivial, trivial, trivial⟩, trivial⟩ ?_
  refine G.seqR tfine rfl trivial ?_
  refine G.seq ?_
  refine G.seqC tfine rfl trivial ?_
  refine GO.callPlain (v := .bool true) rfl rfl rfl rfl (fun args w => Try.call9 args w) (fun ρ w hs hok => awake_any w) ?_
  refine GO.fin tfine rfl trivial ?_
  refine G.cond_false rfl ?_
  refine G.skip ?_
  refine G.seq ?_
  refine G.seqC tfine rfl trivial ?_
  refine GO.callPlain (v := .bool (spileref13_Few l tol)) rfl rfl rfl rfl (fun args w => Try.call10 args w) (fun ρ w hs hok => few13_any A c l tol w (hs.row (cap := c) rfl (hok _ List.mem_cons_self _ List.mem_cons_self))) ?_
  refine GO.fin tfine rfl ?_ ?_
  · first | trivial | (simp [AllP, condB]; done) | (simp only [AllP]; and_intros <;> first | trivial | decide | omega) | (simp [AllP, condB]; intros; and_intros <;> first | assumption | omega) | (simp [AllP, condB]; intros; simp_all; done) | (simp [AllP, condB]; intros; simp_all; omega) | (simp [AllP, condB]; omega)
  refine G.cond (b := ((!(spileref13_Few l tol)) || decide (p > 200000)) || decide (h > 600)) rfl (fun h1 => ?_) (fun h1 => ?_)
  · refine G.seqR tfine rfl trivial ?_
    exact G.ret (endK.ret rfl rfl)
  have hm : l.length ≤ 129 := by
    simp [spileref13_Few] at h1
    omega
  refine G.skip ?_
  obtain ⟨⟨r1, r2, r3, r4, r5, r6, r7, r8, re⟩, hr⟩ : ∃ y, y = gauge_Report l tol d p h s rise := ⟨_, rfl⟩
  refine G.seqDraw hmix [0, 1, 0, 0, 15, 31, 63, 63, 0, 383, 1023] [(1, 800), (1, 850), (8, 9), (9, 9)] rfl rfl rfl ?_
  refine GD.more tfine 0 rfl rfl trivial ?_
  refine GD.callAns [.agg [.r l.length 2 (elM l), .p (I tol)]] [800] 1 rfl rfl rfl rfl rfl ⟨rfl, rfl, rfl, trivial⟩ rfl (fun args w => Try.call12 args w) (fun m' hle ρ w hs hok => copy_any A c l tol w (hs.row (cap := c) (hle.at rfl) (hok _ List.mem_cons_self _ List.mem_cons_self)) (by omega)) ?_
  refine GD.more tfine 2 rfl rfl trivial ?_
  refine GD.call (v := .tuple #[.agg #[I r1, I r2, I r3, I r4, I r5, I r6, I r7, I r8], I re]) 4 rfl rfl rfl rfl rfl (fun args w => Try.call14 args w) (fun m' hle ρ w hs hok => ?_) ?_
  · have := gauge_Report_any (rowAd ρ 800) (ρ 850).1 l tol d p h s rise w (hs.rowR (hle.at rfl) (hok _ List.mem_cons_self _ List.mem_cons_self) (Nat.le_refl _)) (by omega)
    rw [← hr] at this
    exact this
  refine GD.fin tfine 5 rfl rfl trivial ?_
  refine G.seq ?_
  refine G.seqR tfine rfl trivial ?_
  refine G.cond (b := (re != 0)) rfl (fun h2 => ?_) (fun h2 => ?_)
  · obtain ⟨z1, z2, z3, z4, z5, z6, z7, z8⟩ := rep_err hr.symm (by simpa using h2)
    subst z1 z2 z3 z4 z5 z6 z7 z8
    refine G.seqC tfine rfl trivial ?_
    refine GO.structEqV false [I 0, I 0, I 0, I 0, I 0, I 0, I 0, I 0] [I 0, I 0, I 0, I 0, I 0, I 0, I 0, I 0] _ (cmpRep _ _ _ _ _ _ _ _ _ _ _ _ _ _ _ _) rfl rfl rfl rfl rfl ?_
    refine GO.fin tfine rfl trivial ?_
    exact G.ret (endK.ret rfl rfl)
  have h2 : re = 0 := by simpa using h2
  subst h2
  have o := rep_ok hr.symm
  have hp := o.dip
  have hb := fac_bd o.ris o.heat
  have hright := o.right
  refine G.skip ?_
  refine G.seq ?_
  refine G.seqC tfine rfl trivial ?_
  refine GO.callPlain (v := .bool true) rfl rfl rfl rfl (fun args w => Try.call18 args w) (fun ρ w hm _ => ?_) ?_
  · have := gauge_Right_any r1 r2 r3 r4 r5 r6 r7 r8 w
    rw [hright] at this
    exact this
  refine GO.more tfine rfl ?_ ?_
  · first | trivial | (simp [AllP, condB]; done) | (simp only [AllP]; and_intros <;> first | trivial | decide | omega) | (simp [AllP, condB]; intros; and_intros <;> first | assumption | omega) | (simp [AllP, condB]; intros; simp_all; done) | (simp [AllP, condB]; intros; simp_all; omega) | (simp [AllP, condB]; omega)
  refine GO.structEqG true [I r1, I r2, I r3, I r4] [I d, I p, I h, I s] (!((r1 == d) && ((r2 == p) && ((r3 == h) && (r4 == s))))) rfl cmp_api_Reading rfl rfl rfl (by first | exact trivial | exact ⟨id, trivial⟩ | exact ⟨id, id, trivial⟩ | exact ⟨id, id, id, trivial⟩ | exact ⟨id, id, id, id, trivial⟩) rfl rfl rfl (by kernel_rfl) ?_
  refine GO.fin tfine rfl ?_ ?_
  · first | trivial | (simp [AllP, condB]; done) | (simp only [AllP]; and_intros <;> first | trivial | decide | omega) | (simp [AllP, condB]; intros; and_intros <;> first | assumption | omega) | (simp [AllP, condB]; intros; simp_all; done) | (simp [AllP, condB]; intros; simp_all; omega) | (simp [AllP, condB]; omega)
  refine G.cond (b := ((!true) || (!((r1 == d) && ((r2 == p) && ((r3 == h) && (r4 == s))))))) rfl (fun h3 => ?_) (fun h3 => ?_)
  · exfalso
    rw [o.e1, o.e2, o.e3, o.e4] at h3
    simp at h3
  clear h3
  refine G.skip ?_
  refine G.seqD tfine hmix [0, 0, 0, 0, 13, 31] [(2, 11), (3, 12), (4, 11), (5, 12)] rfl rfl rfl rfl trivial ?_
  refine G.seqR tfine rfl ?_ ?_
  · first | trivial | (simp [AllP, condB]; done) | (simp only [AllP]; and_intros <;> first | trivial | decide | omega) | (simp [AllP, condB]; intros; and_intros <;> first | assumption | omega) | (simp [AllP, condB]; intros; simp_all; done) | (simp [AllP, condB]; intros; simp_all; omega) | (simp [AllP, condB]; omega)
  refine G.seqR tfine rfl ?_ ?_
  · first | trivial | (simp [AllP, condB]; done) | (simp only [AllP]; and_intros <;> first | trivial | decide | omega) | (simp [AllP, condB]; intros; and_intros <;> first | assumption | omega) | (simp [AllP, condB]; intros; simp_all; done) | (simp [AllP, condB]; intros; simp_all; omega) | (simp [AllP, condB]; omega)
  rw [IntWalk.i64_in m0 (by omega), IntWalk.i64_in (p + m0) (by omega), IntWalk.i64_in m1 (by omega), IntWalk.i64_in (h + m1) (by omega)]
  obtain ⟨⟨s1, s2, s3, s4, s5, s6, s7, s8, se⟩, hs⟩ : ∃ y, y = gauge_Report l tol d (p + m0) h s rise := ⟨_, rfl⟩
  obtain ⟨⟨t1, t2, t3, t4, t5, t6, t7, t8, te⟩, ht⟩ : ∃ y, y = gauge_Report l tol d p (h + m1) s rise := ⟨_, rfl⟩
  refine G.seq ?_
  refine G.seqDraw hmix [0, 1, 0, 0, 15, 31, 63, 63, 0, 383, 1023] [(1, 801), (1, 851), (8, 13), (9, 13)] rfl rfl rfl ?_
  refine GD.more tfine 0 rfl rfl trivial ?_
  refine GD.callAns [.agg [.r l.length 2 (elM l), .p (I tol)]] [801] 1 rfl rfl rfl rfl rfl ⟨rfl, rfl, rfl, trivial⟩ rfl (fun args w => Try.call12 args w) (fun m' hle ρ w hs hok => copy_any A c l tol w (hs.row (cap := c) (hle.at rfl) (hok _ List.mem_cons_self _ List.mem_cons_self)) (by omega)) ?_
  refine GD.more tfine 2 rfl rfl trivial ?_
  refine GD.call (v := .tuple #[.agg #[I s1, I s2, I s3, I s4, I s5, I s6, I s7, I s8], I se]) 4 rfl rfl rfl rfl rfl (fun args w => Try.call14 args w) (fun m' hle ρ w hsat hok => ?_) ?_
  · have := gauge_Report_any (rowAd ρ 801) (ρ 851).1 l tol d (p + m0) h s rise w (hsat.rowR (hle.at rfl) (hok _ List.mem_cons_self _ List.mem_cons_self) (Nat.le_refl _)) (by omega)
    rw [← hs] at this
    exact this
  refine GD.fin tfine 5 rfl rfl trivial ?_
  refine G.seqR tfine rfl ?_ ?_
  · first | trivial | (simp [AllP, condB]; done) | (simp only [AllP]; and_intros <;> first | trivial | decide | omega) | (simp [AllP, condB]; intros; and_intros <;> first | assumption | omega) | (simp [AllP, condB]; intros; simp_all; done) | (simp [AllP, condB]; intros; simp_all; omega) | (simp [AllP, condB]; omega)
  refine G.cond (b := ((se == 0) && (decide (s5 < r5) || decide (s6 < r6)))) rfl (fun h4 => ?_) (fun h4 => ?_)
  · exfalso
    rw [Bool.and_eq_true] at h4
    have he : se = 0 := by simpa using h4.1
    subst he
    have o2 := rep_ok hs.symm
    have := deep_le o o2 (by omega)
    have h5 := h4.2
    simp at h5
    omega
  clear h4
  refine G.skip ?_
  refine G.seqDraw hmix [0, 1, 0, 0, 15, 31, 63, 63, 0, 383, 1023] [(1, 802), (1, 852), (8, 15), (9, 15)] rfl rfl rfl ?_
  refine GD.more tfine 0 rfl rfl trivial ?_
  refine GD.callAns [.agg [.r l.length 2 (elM l), .p (I tol)]] [802] 1 rfl rfl rfl rfl rfl ⟨rfl, rfl, rfl, trivial⟩ rfl (fun args w => Try.call12 args w) (fun m' hle ρ w hs hok => copy_any A c l tol w (hs.row (cap := c) (hle.at rfl) (hok _ List.mem_cons_self _ List.mem_cons_self)) (by omega)) ?_
  refine GD.more tfine 2 rfl rfl trivial ?_
  refine GD.call (v := .tuple #[.agg #[I t1, I t2, I t3, I t4, I t5, I t6, I t7, I t8], I te]) 4 rfl rfl rfl rfl rfl (fun args w => Try.call14 args w) (fun m' hle ρ w hsat hok => ?_) ?_
  · have := gauge_Report_any (rowAd ρ 802) (ρ 852).1 l tol d p (h + m1) s rise w (hsat.rowR (hle.at rfl) (hok _ List.mem_cons_self _ List.mem_cons_self) (Nat.le_refl _)) (by omega)
    rw [← ht] at this
    exact this
  refine GD.fin tfine 5 rfl rfl trivial ?_
  refine G.seqR tfine rfl ?_ ?_
  · first | trivial | (simp [AllP, condB]; done) | (simp only [AllP]; and_intros <;> first | trivial | decide | omega) | (simp [AllP, condB]; intros; and_intros <;> first | assumption | omega) | (simp [AllP, condB]; intros; simp_all; done) | (simp [AllP, condB]; intros; simp_all; omega) | (simp [AllP, condB]; omega)
  refine G.ret (endK.ret rfl ?_)
  by_cases he : te = 0
  · subst he
    have o3 := rep_ok ht.symm
    have := hot_le o o3 (by omega)
    simp
    omega
  · simp [he]
theorem GaugeRight_row (A : Option Addr) (c : Nat) (ess : List (List Value)) (tol d p h s rise m0 m1 : Int) (hm0 : (Lit.int .u8 m0).wf = true) (hm1 : (Lit.int .u8 m1).wf = true) (w : World) (hr : RdRow w A ess.length 2 (fun i => ess.getD i [])) (hn : A = none → ess.length = 0) (hm : ess.length ≤ maxLen) (hw : ∀ es ∈ ess, LeafAll (Leaf.says w 3) [.int .i64, .int .i64] es) :
    Calls Try.prog 4 #[.agg #[.slice A ess.length c, I tol], .agg #[I d, I p, I h, I s], I rise, .agg #[.int .u8 m0, .int .u8 m1]] w fun e w' => e = .returned (.bool true) ∧ Below w.heap.size w w' := by
  obtain ⟨l, h1, h2⟩ := rowMk hr hw
  rw [← h1]
  exact GaugeRight_any A c l tol d p h s rise m0 m1 w h2 hm0 hm1
end Go.Proofs.Ytiicemgngccicaa
/- The symbolic executor, part AK: structs that hold a row of their own. Generic over P. -/
set_option linter.unusedVariables false
set_option linter.unusedSimpArgs false
namespace Go.Sx
open Go.RowKit
/-- A call answers with a struct of a row of its own and a value. -/
def OwnPair (w w' : World) (e : Ending) (ty : TypeId) (n sz : Nat) (el : Nat → List Value) (v : Value) : Prop := ∃ b c, e = .returned (.agg #[.slice (some ⟨b, 0, none⟩) n c, v]) ∧ n ≤ c ∧ w.heap.size ≤ b ∧ OwnAt w' b ty n sz el 0
section
variable {P : Program} {E : Env} {K : Exit → St → Prop} {T : Tab}
theorem Steps.callOwnPair {ops : Array Oper} {o : Oper} {c : Call} {f : FuncId} {avs : List AV} {caps : List Cap} {C : St} (x : Nat) (ty : TypeId) (n sz : Nat) (el : Nat → List Value) (v : Value) (hg : o.guard = none) (hop : o.op = .call c) (he : callE C.t c = .mk f avs caps) (hd : dstOk E.N o.dst = true) (hx : C.m x = none) (hx2 : C.m (x + 50) = none) (hxb : Nat.blt (x + 50) 1000 = true)
    (hcf : ∀ (args : Array Value) (w : World), (callFunc f args).run P w = .ok (.enter f args) w)
    (hc : ∀ m, LeM C.m m → ∀ ρ w, SatM E ρ m w → (∀ v ∈ avs, v.ok ρ m) → Calls P f (avs.map (AV.conc ρ) ++ caps.map (Cap.conc ρ)).toArray w fun e w' => OwnPair w w' e ty n sz el v ∧ Below w.heap.size w w') :
    Steps P E ops o C (.v (.agg [.row x n E.w0.heap.size, .k v])) (msO x ty n sz el) := by
  intro st hle ρ a w hs Kc Q hk
  have hs' := hs.weakT hle.t
  obtain ⟨hr, hok, hok2⟩ := call_run hs' hop he hcf
  rw [if_pos (by simp [Region.wanted, hg])]
  unfold Oper.wp
  rw [hr]
  refine (hc st.m hle.m ρ w hs.mem hok).mono ?_
  rintro e w' ⟨⟨b, cp, rfl, h1, h2, h3⟩, hb⟩
  have n1 : st.m x = none := by
    rw [hle.n x (by simp only [msO, mget]; cases Nat.beq x (x + 50) <;> simp)]
    exact hx
  have n2 : st.m (x + 50) = none := by
    rw [hle.n (x + 50) (by simp [msO, mget])]
    exact hx2
  obtain ⟨ρ', k1, k2, k3, k4⟩ := hs.mem.addOwnRow hb n1 n2 hxb h2 h3 h1
  refine hk ρ' _ w' ?_
  rw [upm_msO]
  refine (hs.move k2 (fun y hy => isSome_up y (isSome_up y hy)) k1).putT (dstOk_lt hd) (tv := .v (.agg [.row x n E.w0.heap.size, .k v])) ⟨fun q hq => ?_, ?_⟩
  · simp only [List.mem_cons, List.not_mem_nil, or_false] at hq
    rcases hq with rfl | rfl
    · exact k3
    · trivial
  · simp only [AV.conc, List.map_cons, List.map_nil, k4]
    rfl
theorem GO.callOwnPair {ops : Array Oper} {rest : List Oper} {o : Oper} {c : Call} {f : FuncId} {avs : List AV} {caps : List Cap} {t : Nat → TV} {m : Mem} (x : Nat) (ty : TypeId) (n sz : Nat) (el : Nat → List Value) (v : Value) (hg : o.guard = none) (hop : o.op = .call c) (he : callE t c = .mk f avs caps) (hd : dstOk E.N o.dst = true) (hx : m x = none) (hx2 : m (x + 50) = none) (hxb : Nat.blt (x + 50) 1000 = true)
    (hcf : ∀ (args : Array Value) (w : World), (callFunc f args).run P w = .ok (.enter f args) w)
    (hc : ∀ m', LeM m m' → ∀ ρ w, SatM E ρ m' w → (∀ v ∈ avs, v.ok ρ m') → Calls P f (avs.map (AV.conc ρ) ++ caps.map (Cap.conc ρ)).toArray w fun e w' => OwnPair w w' e ty n sz el v ∧ Below w.heap.size w w')
    (k : GO P E ops K rest ⟨Sx.putT t o.dst (.v (.agg [.row x n E.w0.heap.size, .k v])), rowMo m x ty n sz el⟩) : GO P E ops K (o :: rest) ⟨t, m⟩ :=
  GO.steps (Steps.callOwnPair (C := ⟨t, m⟩) x ty n sz el v hg hop he hd hx hx2 hxb hcf hc) (by rw [upm_msO]; exact k)
theorem GO.callTurnR {ops : Array Oper} {rest : List Oper} {o : Oper} {c : Call} {f : FuncId} {avs : List AV} {caps : List Cap} {t : Nat → TV} {m : Mem} (x : Nat) (ty : TypeId) (n n' sz g : Nat) (el el' : Nat → List Value) (hg : o.guard = none) (hop : o.op = .call c) (he : callE t c = .mk f avs caps) (hd : dstOk E.N o.dst = true) (hx : m x = some (.arr ty sz n el 0)) (hin : .c (.row x n g) ∈ avs) (hn : n' ≤ n)
    (hcf : ∀ (args : Array Value) (w : World), (callFunc f args).run P w = .ok (.enter f args) w)
    (hc : ∀ m', LeM m m' → ∀ ρ w, SatM E ρ m' w → (∀ v ∈ avs, v.ok ρ m') → Calls P f (avs.map (AV.conc ρ) ++ caps.map (Cap.conc ρ)).toArray w fun e w' => e = .returned (AC.conc ρ (.row x n' g)) ∧ Fr w [(ρ x).1] w' ∧ OwnAt w' (ρ x).1 ty n' sz el' 0)
    (k : GO P E ops K rest ⟨Sx.putT t o.dst (.v (.c (.row x n' g))), up m x (some (.arr ty sz n' el' 0))⟩) : GO P E ops K (o :: rest) ⟨t, m⟩ :=
  GO.steps (Steps.callTurnR (C := ⟨t, m⟩) x ty n n' sz g el el' hg hop he hd hx hin hn hcf hc) (by rw [upm_one]; exact k)
theorem Steps.appendOwnNew {ops : Array Oper} {o : Oper} {s y : Operand} {t e size bytes d x sz' q n c : Nat} {z : Value} {A : Option Addr} {C : St} (el : Nat → List Value) (hp : ApT P t e size bytes z) (hg : o.guard = none) (hop : o.op = .call { callee := .builtin .append, args := #[s, y], argTypes := #[t, t] }) (hd : o.dst = some d) (hdN : Nat.blt d E.N = true) (hdb : Nat.blt (d + 50) 1000 = true)
    (hx : C.m d = none) (hx2 : C.m (d + 50) = none) (hs : evT C.t s = .v (.c (.slc x 0 sz' 0 0))) (hy : evT C.t y = .v (.c (.inp q A n c))) (hq : C.m q = some (.ro size n el)) (h0 : 0 < n) (hlen : ∀ k, k < n → (el k).length = size) (h1 : ∀ i, i < n → ∀ u ∈ el i, u.oneCell' = true) (b1 : n ≤ maxLen) (b2 : n * bytes ≤ 140737488355328) :
    Steps P E ops o C (.v (.c (.row d n E.w0.heap.size))) (msO d e n size el) := by
  intro st hle ρ a w hsat Kc Q hk
  have hs' := hsat.weakT hle.t
  rw [if_pos (by simp [Region.wanted, hg])]
  have n1 : st.m d = none := by rw [hle.n d (by simp only [msO, mget]; cases Nat.beq d (d + 50) <;> simp)]; exact hx
  have n2 : st.m (d + 50) = none := by rw [hle.n (d + 50) (by simp [msO, mget])]; exact hx2
  have hq2 : st.m q = some (.ro size n el) := by
    rcases hle.m q with h | h
    · rw [hq] at h; cases h
    · exact h.trans hq
  have hs2 := hs'.eval s
  rw [show (St.mk C.t st.m).ev s = _ from hs] at hs2
  obtain ⟨AA, hAA⟩ : ∃ AA : Addr, AA = ⟨(ρ x).1, (ρ x).2 + 0 * sz', none⟩ := ⟨_, rfl⟩
  have es : a.eval s = .slice (some AA) 0 0 := by rw [hAA]; exact hs2.2
  have hy2 := hs'.eval y
  rw [show (St.mk C.t st.m).ev y = _ from hy] at hy2
  have ey : a.eval y = .slice A n c := hy2.2
  have hr : RdRow w A n size el := hsat.mem.rd (cap := c) hq2 hy2.1 (Nat.le_refl _)
  rcases append_new (ty := o.type) hp (A := some AA) (c := c) hr h1 b1 b2 with ⟨hz, _⟩ | ⟨_, v', w', hrun, r1, r2⟩
  · omega
  · have hb : Below w.heap.size w w' := ⟨r2.os, r2.tape, r2.output, r2.size, fun k hk => r2.block k hk (by simp)⟩
    rcases r1.2 with ⟨_, hz⟩ | ⟨g, cp, cur, rfl, hbg, hgg, hnc, hcm, hcs, htake⟩
    · omega
    have hex : (execOp a.eval o).run P w = .ok (.value (.slice (some ⟨g, 0, none⟩) n cp)) w' := by
      simp [execOp, hop, resolve, invoke, builtin, es, ey, hrun, Result.andThen]
    have hown : OwnAt w' g e n size el 0 := ⟨cur, hgg, by rw [hcs]; have := Nat.mul_le_mul_right size hnc; omega, fun i hi => ⟨hlen i hi, fun j hj => by
      rw [← flatE_at hlen hi hj, ← htake, List.getElem?_take, if_pos (by
        have := Nat.mul_le_mul_right size (show i + 1 ≤ n from hi)
        rw [Nat.add_mul] at this
        omega)]
      simp⟩⟩
    obtain ⟨ρ', k1, k2, k3, k4⟩ := hsat.mem.addOwnRow hb n1 n2 hdb hbg hown hnc
    unfold Oper.wp
    rw [hex]
    refine hk ρ' _ w' ?_
    rw [upm_msO]
    exact (hsat.move k2 (fun y hy => isSome_up y (isSome_up y hy)) k1).putT (fun q hq => by rw [hd] at hq; injection hq with hq; subst hq; simpa [Nat.blt_eq] using hdN) (tv := .v (.c (.row d n E.w0.heap.size))) ⟨k3, k4.symm⟩
theorem GD.appendOwnNew {l : List Oper} {cls : List Nat} {X : List (Nat × Nat)} {base : St} {recs : List DR} {rest : List Oper} {tt : Nat → TV} {m : Mem} {o : Oper} {s y : Operand} {t e size bytes d x sz' q n c : Nat} {z : Value} {A : Option Addr} (el : Nat → List Value) (i : Nat) (hi : recs.length = i) (hp : ApT P t e size bytes z) (hg : o.guard = none) (hop : o.op = .call { callee := .builtin .append, args := #[s, y], argTypes := #[t, t] }) (hd : o.dst = some d) (hdN : Nat.blt d E.N = true) (hdb : Nat.blt (d + 50) 1000 = true)
    (hx : (canF l cls X base i recs).m d = none) (hx2 : (canF l cls X base i recs).m (d + 50) = none) (hs : evT (canF l cls X base i recs).t s = .v (.c (.slc x 0 sz' 0 0))) (hy : evT (canF l cls X base i recs).t y = .v (.c (.inp q A n c))) (hq : (canF l cls X base i recs).m q = some (.ro size n el)) (hw : Wok X i o (msO d e n size el) = true) (h0 : 0 < n) (hlen : ∀ k, k < n → (el k).length = size) (h1 : ∀ i, i < n → ∀ u ∈ el i, u.oneCell' = true) (b1 : n ≤ maxLen) (b2 : n * bytes ≤ 140737488355328)
    (k : GD P E K l cls X base (⟨o, .v (.c (.row d n E.w0.heap.size)), msO d e n size el⟩ :: recs) rest (Sx.putT tt o.dst (.v (.c (.row d n E.w0.heap.size)))) (upm m (msO d e n size el))) : GD P E K l cls X base recs (o :: rest) tt m := by
  rw [canF_eq hi] at hx hx2 hs hy hq
  exact GD.step (Steps.appendOwnNew el hp hg hop hd hdN hdb hx hx2 hs hy hq h0 hlen h1 b1 b2) (by rw [hi]; exact hw) k
def endOwnP (T : Tab) (fn : Func) (ty : TypeId) (n sz : Nat) (el : Nat → List Value) (v : Value) : Exit → St → Prop := fun e st => (e = .ret ∨ e = .normal) ∧ ∃ r, fn.results.toList = [r] ∧ ∃ x g el2 room, resOne T st r = .v (.agg [.row x n g, .k v]) ∧ st.m x = some (.arr ty sz n el2 room) ∧ ∀ i, i < n → el2 i = el i
theorem enterOwnP (hT : Tab.fine P T) {f : FuncId} {fn : Func} {c : Code} {args : Array Value} {w : World} (ty : TypeId) (n sz : Nat) (el : Nat → List Value) (v : Value) (h0 : 0 < n) (hf : P.funcs[f]? = some fn) (hb : fn.body = some c) (N : Nat) (hN : fn.ntmps = N) (avs : List AV) (l : List Inp)
    (hargs : args = (avs.map (AV.conc (inpsV l))).toArray) (hl : Nat.ble avs.length N = true) (hr : allRd w l) (ha : allInps l avs)
    (h : G P ⟨w, [], N⟩ (endOwnP T fn ty n sz el v) c ⟨argsT avs, lkM (inpsM l)⟩) : Calls P f args w fun e w' => OwnPair w w' e ty n sz el v ∧ Below w.heap.size w w' := by
  subst hN
  refine enter (E := ⟨w, [], fn.ntmps⟩) hf hb (inpsV l) (Sat.init hr ha hargs (Nat.le_of_ble_eq_true hl)) (h.mono fun e st hk => ⟨hk.1, fun ρ a w' hs => ?_⟩)
  obtain ⟨r, h1, x, g, el2, room, h2, h4, h5⟩ := hk.2
  obtain ⟨h6, h7⟩ := resOne_run hT hs h2
  obtain ⟨k1, k2, k3⟩ := hs.mem.ok x _ h4
  have k2 : w.heap.size ≤ (ρ x).1 := by
    rcases k2 with h | h
    · exact h
    · cases h
  obtain ⟨cs, q1, q2, q3⟩ := k3
  have hrow : AC.ok ρ st.m (.row x n g) := h7 _ List.mem_cons_self
  have had := hs.mem.rowAd h4 hrow h0
  refine ⟨_, results_one h1 h6, ⟨(ρ x).1, (ρ (x + 50)).1, ?_, hrow.2.2.2, k2, cs, q1, by omega, fun i hi => by rw [← h5 i hi]; exact q3 i hi⟩, hs.mem.fr.toBelow⟩
  simp [AV.conc, AC.conc, had]
theorem endOwnP.ret {fn : Func} {ty n sz x g room : Nat} {el el2 : Nat → List Value} {v : Value} {st : St} {r : ResultVar} (h : fn.results.toList = [r]) (h1 : resOne T st r = .v (.agg [.row x n g, .k v])) (h3 : st.m x = some (.arr ty sz n el2 room)) (h4 : ∀ i, i < n → el2 i = el i) : endOwnP T fn ty n sz el v .ret st := ⟨.inl rfl, r, h, x, g, el2, room, h1, h3, h4⟩
end
end Go.Sx
/- Chapter 15: a table with one mark less, and the law GaugeFiner. -/
set_option linter.unusedVariables false
set_option linter.unusedSimpArgs false
set_option maxRecDepth 8000
set_option maxHeartbeats 1000000
namespace Go.Proofs.Ytiicemgngccicaa
open Go.Sx Go.RowKit
def delF (el : Nat → List Value) (i q : Nat) : List Value := if q < i then el q else el (q + 1)
theorem deleteM_any (b n c i : Nat) (el : Nat → List Value) (w : World) (ho : OwnAt w b 55 n 2 el 0) (hi : i < n) (hc : n ≤ c) (h1 : ∀ q, q < n → ∀ u ∈ el q, u.oneCell' = true) (hn : n ≤ 1000000) :
    Calls Try.prog 29 #[.slice (some ⟨b, 0, none⟩) n c, I i, I ((i : Int) + 1)] w fun e w' => e = .returned (.slice (some ⟨b, 0, none⟩) (n - 1) c) ∧ Fr w [b] w' ∧ OwnAt w' b 55 (n - 1) 2 (delF el i) 0 := by
  refine (enterBwS tfine 1900 b 2 (n - 1) c [⟨1900, b, .arr 55 2 n el 0⟩] [⟨1900, b, .arr 55 2 (n - 1) (delF el i) 0⟩] Try.func29 rfl 33 Try.ntmps29 [.c (.slc 1900 0 2 n c), .c (.k (I i)), .c (.k (I ((i : Int) + 1)))] []
    trivial trivial ⟨trivial, trivial⟩ ⟨⟨Nat.le_refl _, trivial, trivial, ho⟩, trivial⟩ rfl rfl ⟨.inl rfl, trivial, trivial, trivial⟩ (fun q hq => by simp only [List.mem_cons, List.not_mem_nil, or_false] at hq; subst hq; exact ⟨_, List.mem_cons_self, rfl, rfl⟩) ⟨trivial, trivial⟩ ⟨_, List.mem_cons_self, rfl, rfl⟩ ?_).mono fun e w' h => ⟨h.1, h.2.1, h.2.2.1⟩
  refine G.seqR tfine rfl trivial ?_
  refine G.seqC tfine rfl trivial ?_
  refine GO.slice3 tfine i ((i : Int) + 1) n rfl rfl rfl rfl rfl rfl rfl rfl rfl rfl (by omega) (by omega) (by omega) (by omega) (GO.nil ?_)
  refine G.seq (G.seqR tfine rfl trivial ?_)
  refine G.cond (b := ((i : Int) == (i : Int) + 1)) rfl (fun h => ?_) (fun h => ?_)
  · exfalso
    simp only [beq_iff_eq] at h
    omega
  refine G.skip ?_
  refine G.seqR tfine rfl trivial ?_
  have e1 : i + (n - (i + 1)) = n - 1 := by omega
  have e2 : (n - (n - 1)) * 2 = 2 := by omega
  have hel : ∀ q, q < i + (n - (i + 1)) → delF el i q = if q < i then el q else el (i + 1 + (q - i)) := fun q hq => by
    unfold delF
    by_cases h : q < i
    · rw [if_pos h, if_pos h]
    · rw [if_neg h, if_neg h]
      congr 1
      omega
  refine G.join (fun _ : Unit => St.of [(0, .v (.c (.slc 1900 0 2 (n - 1) c))), (7, .v (.c (.k (I n))))] [(1900, .arr 55 2 (n - 1) (delF el i) 2)]) (fun _ => True) ?_ ?_
  · by_cases hcc : i + 1 < c
    · refine G.draw (cls := [0, 0, 3, 0, 0, 24, 63, 127]) (X := [(6, 1900)]) hmix rfl rfl rfl ?_
      refine GD.more tfine 0 rfl rfl ?_ ?_
      · simp only [AllP]; and_intros <;> first | trivial | omega
      have z1 : ((i : Int).toNat - Int.toNat 0) = i := by simp
      have z2 : c - Int.toNat 0 = c := by simp
      have z3 : (0 + Int.toNat 0) = 0 := rfl
      have z4 : (0 + ((i : Int) + 1).toNat) = i + 1 := by omega
      have z5 : ((n : Int).toNat - ((i : Int) + 1).toNat) = n - (i + 1) := by omega
      have z6 : c - ((i : Int) + 1).toNat = c - (i + 1) := by omega
      rw [z1, z2, z3, z4, z5, z6]
      refine GD.appendIn (i := i) (j := i + 1) (k := n - (i + 1)) (c2 := c - (i + 1)) (delF el i) 6 rfl apM rfl rfl rfl rfl rfl rfl rfl (by omega) (by omega) (by omega) h1 hel ?_
      rw [e1, e2]
      refine GD.fin tfine 7 rfl rfl trivial ?_
      exact ⟨(), trivial, St.le_of rfl ⟨⟨_, rfl, Blk.le_refl _⟩, trivial⟩ ⟨rfl, rfl, trivial⟩⟩
    · have hn1 : n = i + 1 := by omega
      have hc1 : c = i + 1 := by omega
      subst hn1 hc1
      refine G.draw (cls := [0, 0, 3, 0, 0, 24, 63, 127]) (X := [(6, 1900)]) hmix rfl rfl rfl ?_
      refine GD.op1 tfine 0 rfl rfl trivial rfl ?_
      refine GD.op1 tfine 1 rfl rfl trivial rfl ?_
      refine GD.op1 tfine 2 rfl rfl ?_ rfl ?_
      · simp only [AllP]; and_intros <;> first | trivial | omega
      refine GD.op1 tfine 3 rfl rfl trivial rfl ?_
      refine GD.op1 tfine 4 rfl rfl trivial rfl ?_
      have z1 : ((i : Int).toNat - Int.toNat 0) = i := by simp
      have z2 : (i + 1) - Int.toNat 0 = i + 1 := by simp
      have z3 : (0 + Int.toNat 0) = 0 := rfl
      rw [z1, z2, z3]
      refine GD.sliceEnd (n := i + 1) tfine 5 rfl rfl rfl rfl rfl rfl rfl rfl rfl ?_
      refine GD.appendIn (i := i) (j := 0) (k := 0) (c2 := 0) (delF el i) 6 rfl apM rfl rfl rfl rfl rfl rfl rfl (by omega) (by omega) (by omega) h1 (fun q hq => by rw [hel q (by omega), if_pos (by omega), if_pos (by omega)]) ?_
      rw [show i + 0 = i + 1 - 1 by omega, show (i + 1 - (i + 1 - 1)) * 2 = 2 by omega]
      refine GD.fin tfine 7 rfl rfl trivial ?_
      exact ⟨(), trivial, St.le_of rfl ⟨⟨_, rfl, Blk.le_refl _⟩, trivial⟩ ⟨rfl, rfl, trivial⟩⟩
  rintro _ _
  refine G.seqC tfine rfl ?_ ?_
  · simp only [AllP]; and_intros <;> first | trivial | omega
  have y1 : (0 + (((n - 1 : Nat) : Int)).toNat) = n - 1 := by simp
  have y2 : ((n : Int).toNat - (((n - 1 : Nat) : Int)).toNat) = n - (n - 1) := by simp
  have y3 : c - (((n - 1 : Nat) : Int)).toNat = c - (n - 1) := by simp
  rw [y1, y2, y3]
  refine GO.clear (i := n - 1) (k := n - (n - 1)) (c := c - (n - 1)) apM rfl rfl rfl rfl rfl (by omega) (by omega) (by omega) (fun w => by kernel_rfl) (fun u hu => by simp [Value.cells] at hu; rcases hu with rfl | rfl <;> rfl) (GO.nil ?_)
  refine G.seqR tfine rfl trivial ?_
  exact G.ret (endBwS.ret rfl rfl ⟨⟨_, _, rfl, fun q hq => rfl⟩, trivial⟩)
theorem el_erase (l : List Mk) (i q : Nat) (hq : q < l.length - 1) (hi : i < l.length) : elM (l.eraseIdx i) q = delF (elM l) i q := by
  have h1 : q < (l.eraseIdx i).length := by rw [List.length_eraseIdx]; split <;> omega
  have : (l.eraseIdx i).getD q (0, 0) = if q < i then l.getD q (0, 0) else l.getD (q + 1) (0, 0) := by
    simp only [List.getD_eq_getElem?_getD]
    rw [List.getElem?_eraseIdx]
    split <;> rfl
  unfold delF elM
  rw [this]
  split <;> rfl
theorem TabOk.strict {l : List Mk} {tol : Int} (h : TabOk l tol) {i j : Nat} (hij : i < j) (hj : j < l.length) : (l.getD i (0, 0)).1 < (l.getD j (0, 0)).1 := by
  have h1 := (h.mono (show i ≤ j - 1 by omega) (by omega)).1
  have h2 := (h.step j (by omega) hj).1
  omega
theorem ok_tab {l : List Mk} {tol : Int} (h : TabOk l tol) : tabE l tol = 0 := by
  have h2 := h.two
  have hm := h.most
  have ht := h.tol0
  have gd : ∀ k (hk : k < l.length), l.getD k (0, 0) = l[k] := fun k hk => by rw [List.getD_eq_getElem?_getD, List.getElem?_eq_getElem hk]; rfl
  have e1 : l.any badM = false := by
    rw [List.any_eq_false]
    intro x hx
    obtain ⟨k, hk, rfl⟩ := List.mem_iff_getElem.1 hx
    have := h.mark k hk
    rw [gd k hk] at this
    simp [badM, dip_Check_1, dip_volume]
    omega
  have e2 : badPs l = false := by
    rw [badPs, List.any_eq_false]
    intro k hk
    have hk := List.mem_range'_1.1 hk
    have := h.step k (by omega) (by omega)
    unfold badP
    rw [Bool.not_eq_true, Bool.or_eq_false_iff, decide_eq_false_iff_not, decide_eq_false_iff_not]
    omega
  rw [tabE, if_neg (by simp; omega), if_neg (by simp; omega), e1, e2, if_neg (by simp [dip_volume]; omega), if_neg (by simp)]
theorem getD_erase (l : List Mk) (i q : Nat) : (l.eraseIdx i).getD q (0, 0) = if q < i then l.getD q (0, 0) else l.getD (q + 1) (0, 0) := by
  simp only [List.getD_eq_getElem?_getD]
  rw [List.getElem?_eraseIdx]
  split <;> rfl
theorem erase_len (l : List Mk) (i : Nat) (hi : i < l.length) : (l.eraseIdx i).length = l.length - 1 := by
  rw [List.length_eraseIdx, if_pos hi]
theorem TabOk.erase {l : List Mk} {tol : Int} (h : TabOk l tol) (k : Nat) (h3 : 3 ≤ l.length) (hk : k < l.length) : TabOk (l.eraseIdx k) tol := by
  have hm := h.most
  have hl := erase_len l k hk
  refine ⟨by omega, by omega, h.tol0, fun q hq => ?_, fun q h0 hq => ?_⟩
  · rw [getD_erase]
    split
    · exact h.mark q (by omega)
    · exact h.mark (q + 1) (by omega)
  · rw [getD_erase, getD_erase]
    by_cases hq1 : q < k
    · rw [if_pos (show q - 1 < k by omega), if_pos hq1]
      exact h.step q h0 (by omega)
    · by_cases hq2 : q - 1 < k
      · rw [if_pos hq2, if_neg hq1]
        exact ⟨h.strict (by omega) (by omega), (h.mono (by omega) (by omega)).2⟩
      · rw [if_neg hq2, if_neg hq1]
        have := h.step (q + 1) (by omega) (by omega)
        rw [show q - 1 + 1 = q + 1 - 1 by omega]
        exact this
theorem read_of {l : List Mk} {tol h : Int} (ok : TabOk l tol) (h1 : (l.getD 0 (0, 0)).1 ≤ h) (h2 : h ≤ (l.getD (l.length - 1) (0, 0)).1) : readE l tol h = 0 := by
  rw [readE, if_neg (by simp [ok_tab ok]), if_neg (by unfold outR; rw [Bool.not_eq_true, Bool.or_eq_false_iff, decide_eq_false_iff_not, decide_eq_false_iff_not]; omega)]
theorem erase_read {l : List Mk} {tol h : Int} (hz : readE l tol h = 0) (k : Nat) (h3 : 3 ≤ l.length) (hk0 : 1 ≤ k) (hk : k + 1 < l.length) : readE (l.eraseIdx k) tol h = 0 := by
  obtain ⟨a1, a2, a3⟩ := readE_ok hz
  have hl := erase_len l k (by omega)
  refine read_of ((tab_ok a1).erase k h3 (by omega)) ?_ ?_
  · rw [getD_erase, if_pos (by omega)]
    exact a2
  · rw [getD_erase, hl, if_neg (by omega), show l.length - 1 - 1 + 1 = l.length - 1 by omega]
    exact a3
/-- The lesser volume is the greatest one of the marks that are not above. -/
theorem low_ge {l : List Mk} {tol h : Int} (hz : readE l tol h = 0) (j : Nat) (hj : j < l.length) (hjh : (l.getD j (0, 0)).1 ≤ h) : (l.getD j (0, 0)).2 ≤ lowV l h := by
  have ok := tab_ok (readE_ok hz).1
  obtain ⟨a1, a2, a3⟩ := idx_spec hz
  unfold lowV
  split
  · rename_i h1
    have hle : j ≤ idx l h := by
      by_cases e : j ≤ idx l h
      · exact e
      · have := ok.strict (show idx l h < j by omega) hj
        omega
    exact (ok.mono hle a1).2
  · rename_i h1
    have hle : j ≤ idx l h - 1 := by
      by_cases e : j ≤ idx l h - 1
      · exact e
      · have := (ok.mono (show idx l h ≤ j by omega) hj).1
        omega
    exact (ok.mono hle (by omega)).2
theorem low_at {l : List Mk} {tol h : Int} (hz : readE l tol h = 0) : ∃ j, j < l.length ∧ (l.getD j (0, 0)).1 ≤ h ∧ lowV l h = (l.getD j (0, 0)).2 := by
  obtain ⟨b1, b2, b3⟩ := readE_ok hz
  obtain ⟨a1, a2, a3⟩ := idx_spec hz
  unfold lowV
  split
  · rename_i h1
    exact ⟨_, a1, h1, rfl⟩
  · rename_i h1
    have h0 : idx l h ≠ 0 := fun e => by rw [e] at h1; omega
    have := a3 (idx l h - 1) (by omega)
    exact ⟨_, by omega, by omega, rfl⟩
theorem high_le {l : List Mk} {tol h : Int} (hz : readE l tol h = 0) (j : Nat) (hj : j < l.length) (hjh : h ≤ (l.getD j (0, 0)).1) : (l.getD (idx l h) (0, 0)).2 ≤ (l.getD j (0, 0)).2 := by
  have ok := tab_ok (readE_ok hz).1
  obtain ⟨a1, a2, a3⟩ := idx_spec hz
  have hle : idx l h ≤ j := by
    by_cases e : idx l h ≤ j
    · exact e
    · have := a3 j (by omega)
      omega
  exact (ok.mono hle hj).2
theorem erase_wider {l : List Mk} {tol h : Int} (hz : readE l tol h = 0) (k : Nat) (h3 : 3 ≤ l.length) (hk0 : 1 ≤ k) (hk : k + 1 < l.length) : lowV (l.eraseIdx k) h ≤ lowV l h ∧ (l.getD (idx l h) (0, 0)).2 ≤ ((l.eraseIdx k).getD (idx (l.eraseIdx k) h) (0, 0)).2 := by
  have hz2 := erase_read hz k h3 hk0 hk
  have hl := erase_len l k (by omega)
  have old : ∀ q, q < (l.eraseIdx k).length → ∃ j, j < l.length ∧ (l.eraseIdx k).getD q (0, 0) = l.getD j (0, 0) := fun q hq => by
    rw [getD_erase]
    split
    · exact ⟨q, by omega, rfl⟩
    · exact ⟨q + 1, by omega, rfl⟩
  constructor
  · obtain ⟨q, q1, q2, q3⟩ := low_at hz2
    obtain ⟨j, j1, j2⟩ := old q q1
    rw [q3, j2]
    rw [j2] at q2
    exact low_ge hz j j1 q2
  · obtain ⟨a1, a2, _⟩ := idx_spec hz2
    obtain ⟨j, j1, j2⟩ := old _ a1
    rw [j2] at a2 ⊢
    exact high_le hz j j1 a2
theorem copyO_any (A : Option Addr) (c : Nat) (l : List Mk) (tol : Int) (w : World) (hl : RdRow w A l.length 2 (elM l)) (hm : l.length ≤ 1000000) (h0 : 0 < l.length) :
    Calls Try.prog 12 #[.agg #[.slice A l.length c, I tol]] w fun e w' => OwnPair w w' e 55 l.length 2 (elM l) (I tol) ∧ Below w.heap.size w w' := by
  refine enterOwnP tfine 55 l.length 2 (elM l) (I tol) h0 Try.func12 rfl 10 Try.ntmps12 [.agg [.inp 1000 A l.length c, .k (I tol)]] [⟨1000, A, 2, l.length, elM l⟩] rfl rfl ⟨hl, trivial⟩ ⟨⟨.inl ⟨rfl, rfl, rfl⟩, trivial, trivial⟩, trivial⟩ ?_
  refine G.seqR tfine rfl trivial ?_
  refine G.seqDraw hmix [0, 0, 2, 7, 0, 16, 63, 127] [(0, 3), (3, 6), (3, 56), (7, 2)] rfl rfl rfl ?_
  refine GD.emptyOwn tfine 2 (elM l) 0 rfl rfl rfl rfl rfl rfl rfl rfl rfl rfl rfl ?_
  refine GD.more tfine 1 rfl rfl trivial ?_
  refine GD.appendOwnNew (elM l) 3 rfl apM rfl rfl rfl rfl rfl rfl rfl rfl rfl rfl rfl h0 (fun k hk => rfl) (fun i hi u hu => by simp [elM] at hu; rcases hu with rfl | rfl <;> rfl) (by unfold maxLen; omega) (by omega) ?_
  refine GD.fin tfine 4 rfl rfl trivial ?_
  exact G.ret (endOwnP.ret rfl rfl rfl fun i hi => rfl)
theorem GaugeFiner_any (A : Option Addr) (c : Nat) (l : List Mk) (tol x h : Int) (w : World) (hl : RdRow w A l.length 2 (elM l)) (hx : (Lit.int .u8 x).wf = true) :
    Calls Try.prog 7 #[.agg #[.slice A l.length c, I tol], .int .u8 x, I h] w fun e w' => e = .returned (.bool true) ∧ Below w.heap.size w w' := by
  have hx := u8_bd hx
  refine enterPlain tfine Try.func7 rfl 82 Try.ntmps7 [.agg [.inp 1000 A l.length c, .k (I tol)], .c (.k (.int .u8 x)), .c (.k (I h))] [⟨1000, A, 2, l.length, elM l⟩] rfl rfl ⟨hl, trivial⟩ ⟨⟨.inl ⟨rfl, rfl, rfl⟩, trivial, trivial⟩, trivial, trivial, trivial⟩ ?_
  refine G.seqR tfine rfl trivial ?_
  refine G.seq ?_
  refine G.seqC tfine rfl trivial ?_
  refine GO.callPlain (v := .bool true) rfl rfl rfl rfl (fun args w => Try.call9 args w) (fun ρ w hs hok => awake_any w) ?_
  refine GO.fin tfine rfl trivial ?_
  refine G.cond_false rfl ?_
  refine G.skip ?_
  refine G.seq ?_
  refine G.seqC tfine rfl trivial ?_
  refine GO.callPlain (v := .bool (spileref13_Few l tol)) rfl rfl rfl rfl (fun args w => Try.call10 args w) (fun ρ w hs hok => few13_any A c l tol w (hs.row (cap := c) rfl (hok _ List.mem_cons_self _ List.mem_cons_self))) ?_
  refine GO.fin tfine rfl ?_ ?_
  · first | trivial | (simp [AllP, condB]; done) | (simp only [AllP]; and_intros <;> first | trivial | decide | omega) | (simp [AllP, condB]; intros; and_intros <;> first | assumption | omega) | (simp [AllP, condB]; intros; simp_all; done) | (simp [AllP, condB]; intros; simp_all; omega) | (simp [AllP, condB]; omega)
  refine G.cond (b := ((!(spileref13_Few l tol)) || decide ((l.length : Int) < 3))) rfl (fun h1 => ?_) (fun h1 => ?_)
  · refine G.seqR tfine rfl trivial ?_
    exact G.ret (endK.ret rfl rfl)
  have hm : l.length ≤ 129 ∧ 3 ≤ l.length := by
    simp [spileref13_Few] at h1
    omega
  obtain ⟨hm, h3⟩ := hm
  refine G.skip ?_
  obtain ⟨⟨wl, wh, we⟩, hw⟩ : ∃ y, y = wet3 l tol h := ⟨_, rfl⟩
  refine G.seqC tfine rfl trivial ?_
  refine GO.callAns [.agg [.r l.length 2 (elM l), .p (I tol)]] [800] rfl rfl rfl rfl ⟨rfl, rfl, rfl, trivial⟩ (fun args w => Try.call12 args w) (fun ρ w hs hok => copy_any A c l tol w (hs.row (cap := c) rfl (hok _ List.mem_cons_self _ List.mem_cons_self)) (by omega)) ?_
  refine GO.more tfine rfl trivial ?_
  refine GO.callPlain (v := .tuple #[.agg #[I wl, I wh], I we]) rfl rfl rfl rfl (fun args w => Try.call11 args w) (fun ρ w hs hok => ?_) ?_
  · have := wet_any (rowAd ρ 800) (ρ 850).1 l tol h w (hs.rowR rfl (hok _ List.mem_cons_self _ List.mem_cons_self) (Nat.le_refl _)) (by omega)
    rw [← hw] at this
    exact this
  refine GO.fin tfine rfl trivial ?_
  refine G.seq ?_
  refine G.seqR tfine rfl trivial ?_
  refine G.cond (b := (we != 0)) rfl (fun h2 => ?_) (fun h2 => ?_)
  · have hz : readE l tol h ≠ 0 := fun hz => by
      rw [(wet_ok hz).1] at hw
      injection hw with _ hw
      injection hw with _ hw
      rw [hw] at h2
      simp at h2
    rw [wet_bad hz] at hw
    injection hw with q1 hw
    injection hw with q2 hw
    subst q1 q2
    refine G.seqC tfine rfl trivial ?_
    refine GO.structEq false [I 0, I 0] [I 0, I 0] true rfl cmp_api_Bounds rfl rfl rfl rfl rfl (by kernel_rfl) ?_
    refine GO.fin tfine rfl trivial ?_
    exact G.ret (endK.ret rfl rfl)
  have h2 : we = 0 := by simpa using h2
  have hz : readE l tol h = 0 := by
    by_cases hz : readE l tol h = 0
    · exact hz
    · rw [wet_bad hz] at hw
      injection hw with _ hw
      injection hw with _ hw
      exact absurd (hw.symm.trans h2) hz
  obtain ⟨w1, w2, w3, w4, w5, w6⟩ := wet_ok hz
  rw [w1] at hw
  injection hw with q1 hw
  injection hw with q2 hw
  subst h2
  obtain ⟨i, hi, hix⟩ : ∃ i : Nat, i < l.length - 2 ∧ Int.tmod x ((l.length : Int) - 2) = (i : Int) := by
    have e1 := Int.tmod_nonneg ((l.length : Int) - 2) hx.1
    have e2 := Int.tmod_lt_of_pos x (b := ((l.length : Int) - 2)) (by omega)
    exact ⟨(Int.tmod x ((l.length : Int) - 2)).toNat, by omega, by omega⟩
  obtain ⟨k, hk⟩ : ∃ k, k = i + 1 := ⟨_, rfl⟩
  obtain ⟨v1, v2⟩ := erase_wider hz k h3 (by omega) (by omega)
  have hz2 := erase_read hz k h3 (by omega) (by omega)
  obtain ⟨u1, u2, u3, u4, u5, u6⟩ := wet_ok hz2
  have hle := erase_len l k (by omega)
  refine G.skip ?_
  refine G.seqC tfine rfl trivial ?_
  refine GO.callOwnPair 801 55 l.length 2 (elM l) (I tol) rfl rfl rfl rfl rfl rfl rfl (fun args w => Try.call12 args w) (fun m' hle ρ w hs hok => copyO_any A c l tol w (hs.row (cap := c) (hle.at rfl) (hok _ List.mem_cons_self _ List.mem_cons_self)) (by omega) (by omega)) ?_
  refine GO.fin tfine rfl trivial ?_
  refine G.seqR tfine rfl ?_ ?_
  · rw [IntWalk.i64_in ((l.length : Int) - 2) (by omega)]
    simp only [AllP]; and_intros <;> first | trivial | omega
  rw [IntWalk.i64_in x (by omega), IntWalk.i64_in ((l.length : Int) - 2) (by omega), hix, IntWalk.i64_in (1 + (i : Int)) (by omega), show 1 + (i : Int) = (k : Int) by omega]
  refine G.seqC tfine rfl trivial ?_
  rw [IntWalk.i64_in ((k : Int) + 1) (by omega)]
  refine GO.callTurnR 801 55 l.length (l.length - 1) 2 w.heap.size (elM l) (delF (elM l) k) rfl rfl rfl rfl rfl List.mem_cons_self (Nat.sub_le _ _) (fun args w => Try.call29 args w) (fun m1 hle ρ w1 hs hok => ?_) ?_
  · have o := hok _ List.mem_cons_self
    have e := hs.rowAd (hle.at rfl) o (by omega)
    have := deleteM_any (ρ 801).1 l.length (ρ 851).1 k (elM l) w1 (hs.ownA (hle.at rfl)) (by omega) o.2.2.2 (fun q hq u hu => by simp [elM] at hu; rcases hu with rfl | rfl <;> rfl) (by omega)
    have e2 : (List.map (AV.conc ρ) [AV.c (.row 801 l.length w.heap.size), AV.c (.k (I k)), AV.c (.k (I ((k : Int) + 1)))] ++ List.map (Cap.conc ρ) []).toArray = #[.slice (some ⟨(ρ 801).1, 0, none⟩) l.length (ρ 851).1, I k, I ((k : Int) + 1)] := by
      simp [AV.conc, AC.conc, e]
    have e3 : AC.conc ρ (.row 801 (l.length - 1) w.heap.size) = .slice (some ⟨(ρ 801).1, 0, none⟩) (l.length - 1) (ρ 851).1 := by
      simp [AC.conc, e]
    rw [← e2, ← e3] at this
    exact this
  refine GO.fin tfine rfl trivial ?_
  obtain ⟨⟨yl, yh, ye⟩, hy⟩ : ∃ y, y = wet3 (l.eraseIdx k) tol h := ⟨_, rfl⟩
  refine G.seqC tfine rfl trivial ?_
  refine GO.callPlain (v := .tuple #[.agg #[I yl, I yh], I ye]) rfl rfl rfl rfl (fun args w => Try.call11 args w) (fun ρ w1 hs hok => ?_) ?_
  · have hr := hs.rowA rfl (hok _ List.mem_cons_self _ List.mem_cons_self) (Nat.le_refl _)
    have hr2 : RdRow w1 (rowAd ρ 801) (l.eraseIdx k).length 2 (elM (l.eraseIdx k)) := by
      rw [hle]
      refine hr.congr fun q hq => ?_
      rw [el_erase _ _ _ hq (by omega)]
    have := wet_any (rowAd ρ 801) (ρ 851).1 (l.eraseIdx k) tol h w1 hr2 (by omega)
    rw [← hy, hle] at this
    exact this
  refine GO.fin tfine rfl trivial ?_
  refine G.seqR tfine rfl ?_ ?_
  · first | trivial | (simp [AllP, condB]; done) | (simp only [AllP]; and_intros <;> first | trivial | decide | omega) | (simp [AllP, condB]; intros; and_intros <;> first | assumption | omega) | (simp [AllP, condB]; intros; simp_all; done) | (simp [AllP, condB]; intros; simp_all; omega) | (simp [AllP, condB]; omega)
  refine G.ret (endK.ret rfl ?_)
  rw [u1] at hy
  injection hy with y1 hy
  injection hy with y2 y3
  rw [q1, q2, y1, y2, y3]
  simp [-List.getD_eq_getElem?_getD]
  omega
theorem GaugeFiner_row (A : Option Addr) (c : Nat) (ess : List (List Value)) (tol x h : Int) (w : World) (hr : RdRow w A ess.length 2 (fun i => ess.getD i [])) (hn : A = none → ess.length = 0) (hm : ess.length ≤ maxLen) (hw : ∀ es ∈ ess, LeafAll (Leaf.says w 3) [.int .i64, .int .i64] es) (hx : (Lit.int .u8 x).wf = true) :
    Calls Try.prog 7 #[.agg #[.slice A ess.length c, I tol], .int .u8 x, I h] w fun e w' => e = .returned (.bool true) ∧ Below w.heap.size w w' := by
  obtain ⟨l, h1, h2⟩ := rowMk hr hw
  rw [← h1]
  exact GaugeFiner_any A c l tol x h w h2 hx
end Go.Proofs.Ytiicemgngccicaa
