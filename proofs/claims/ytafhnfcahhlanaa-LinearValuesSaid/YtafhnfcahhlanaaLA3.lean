/- The symbolic executor, part AP: iterators (a range over a function): what an iterator owes its caller, the statement by it, the call of yield. Generic over P. -/
import Derived.Test.YtafhnfcahhlanaaLA2
import Derived.Laws.OwnMore
import Derived.MapKept
import Derived.RangeFuncIn
import Derived.RangeFuncRecord
import Derived.RangeFuncSeq
import Derived.Defers
/- The symbolic executor, part AD: answers of any shape (plain parts and rows that the call has made), in any order; a whole array's element at an unknown place; appending to a list from nothing on. Generic over P. -/
set_option linter.unusedVariables false
set_option linter.unusedSimpArgs false
namespace Go.Sx
open Go.RowKit
theorem nbeq {i y : Nat} (e : i ≠ y) : Nat.beq i y = false := by
  cases h : Nat.beq i y with
  | false => rfl
  | true => exact absurd (Nat.eq_of_beq_eq_true h) e
theorem nx {a b : Nat} (h : Nat.beq a b = false) : a ≠ b := fun e => by subst e; simp at h
/-! ### Shapes of answers -/
/-- A part of an answer: a plain value, or a row of n elements of sz cells. -/
inductive RC where
  | p (v : Value)
  | r (n sz : Nat) (el : Nat → List Value)
inductive RV where
  | c (a : RC)
  | agg (l : List RC)
def RC.says (w w' : World) : RC → Value → Prop
  | .p v, u => u = v
  | .r n sz el, u => ∃ A c, u = .slice A n c ∧ n ≤ c ∧ (∀ a, A = some a → a.spot = none) ∧ RdNew w w' A n sz el
def saysL (w w' : World) : List RC → List Value → Prop
  | [], [] => True
  | a :: r, u :: s => a.says w w' u ∧ saysL w w' r s
  | _, _ => False
def flatV : List RV → List RC
  | [] => []
  | .c a :: r => a :: flatV r
  | .agg l :: r => l ++ flatV r
def valL : List RV → List Value → List Value
  | .c _ :: r, v :: s => v :: valL r s
  | .agg l :: r, s => .agg (s.take l.length).toArray :: valL r (s.drop l.length)
  | _, _ => []
def tupV : List Value → Value
  | [v] => v
  | l => .tuple l.toArray
/-- The answer has this shape. -/
def Ans (w w' : World) (rvs : List RV) (e : Ending) : Prop := ∃ cs, saysL w w' (flatV rvs) cs ∧ e = .returned (tupV (valL rvs cs))
/-! ### On the caller's side: rows get names -/
def rowM (m : Mem) (x n sz : Nat) (el : Nat → List Value) : Mem := up (up m x (some (.ro sz n el))) (x + 50) (some (.ro 0 0 fun _ => []))
def acL (g : Nat) : List RC → List Nat → List AC
  | .p v :: r, q => .k v :: acL g r q
  | .r n _ _ :: r, x :: q => .row x n g :: acL g r q
  | _, _ => []
def mL (m : Mem) : List RC → List Nat → Mem
  | .p _ :: r, q => mL m r q
  | .r n sz el :: r, x :: q => mL (rowM m x n sz el) r q
  | _, _ => m
def okN (m : Mem) : List RC → List Nat → Prop
  | [], _ => True
  | .p _ :: r, q => okN m r q
  | .r n sz el :: r, x :: q => m x = none ∧ m (x + 50) = none ∧ Nat.blt (x + 50) 1000 = true ∧ okN (rowM m x n sz el) r q
  | .r .. :: _, [] => False
def avL : List RV → List AC → List AV
  | .c _ :: r, a :: s => .c a :: avL r s
  | .agg l :: r, s => .agg (s.take l.length) :: avL r (s.drop l.length)
  | _, _ => []
def tvL : List AV → TV
  | [a] => .v a
  | l => .tup l
theorem avL_conc (ρ : Val) : ∀ (rvs : List RV) (acs : List AC), (avL rvs acs).map (AV.conc ρ) = valL rvs (acs.map (AC.conc ρ))
  | [], _ => rfl
  | .c _ :: r, [] => rfl
  | .c a :: r, b :: s => by
    simp only [avL, List.map_cons, valL, avL_conc ρ r s]
    rfl
  | .agg l :: r, s => by
    simp only [avL, List.map_cons, valL, avL_conc ρ r, List.map_drop, AV.conc, List.map_take]
theorem avL_ok {ρ : Val} {m : Mem} : ∀ (rvs : List RV) (acs : List AC), (∀ a ∈ acs, a.ok ρ m) → ∀ a ∈ avL rvs acs, a.ok ρ m
  | [], _, _ => fun a h => by cases h
  | .c _ :: r, [], _ => fun a h => by cases h
  | .c _ :: r, b :: s, h => fun a ha => by
    cases ha with
    | head => exact h b (.head _)
    | tail _ ha => exact avL_ok r s (fun a ha => h a (.tail _ ha)) a ha
  | .agg l :: r, s, h => fun a ha => by
    cases ha with
    | head => exact fun a ha => h a (List.mem_of_mem_take ha)
    | tail _ ha => exact avL_ok r _ (fun a ha => h a (List.mem_of_mem_drop ha)) a ha
theorem tvL_rep {ρ : Val} {m : Mem} {l : List AV} (h : ∀ a ∈ l, a.ok ρ m) : (tvL l).rep ρ m (tupV (l.map (AV.conc ρ))) := by
  match l, h with
  | [a], h => exact ⟨h a (.head _), rfl⟩
  | [], h => exact ⟨h, rfl⟩
  | a :: b :: r, h => exact ⟨h, rfl⟩
theorem isSome_rowM {m : Mem} {x n sz : Nat} {el : Nat → List Value} (y : Nat) (h : (m y).isSome = true) : (rowM m x n sz el y).isSome = true := isSome_up y (isSome_up y h)
section
variable {P : Program} {E : Env} {K : Exit → St → Prop} {T : Tab}
theorem SatM.addRow {ρ : Val} {m : Mem} {w' : World} {g0 : Nat} (h : SatM E ρ m w') (hlt : ∀ y b, m y = some b → b.own → (ρ y).1 < g0) {x n sz c : Nat} (hx : m x = none) (hx2 : m (x + 50) = none) (hxb : Nat.blt (x + 50) 1000 = true) {A : Option Addr} {el : Nat → List Value}
    (hr : 0 < n → ∃ b o, A = some ⟨b, o, none⟩ ∧ g0 ≤ b ∧ b < w'.heap.size ∧ ∀ i, i < n → (el i).length = sz ∧ ∀ j, j < sz → w'.cell? ⟨b, o + (i * sz + j), none⟩ = (el i)[j]?) (hsp : ∀ a, A = some a → a.spot = none) (hcn : n ≤ c) :
    ∃ ρ' : Val, (∀ y, (m y).isSome = true → ρ' y = ρ y) ∧ SatM E ρ' (rowM m x n sz el) w' ∧ AC.ok ρ' (rowM m x n sz el) (.row x n g0) ∧ AC.conc ρ' (.row x n g0) = .slice A n c ∧ ∀ y b, rowM m x n sz el y = some b → b.own → (ρ' y).1 < g0 := by
  have hxb : x + 50 < 1000 := by simpa [Nat.blt_eq] using hxb
  obtain ⟨p, hp0⟩ : ∃ p : Nat × Nat, p = (A.map fun a => (a.block, a.off)).getD (0, 0) := ⟨_, rfl⟩
  obtain ⟨q, hq0⟩ : ∃ q : Nat × Nat, q = (c, (A.map fun _ => 1).getD 0) := ⟨_, rfl⟩
  obtain ⟨ρ', hρ'⟩ : ∃ ρ' : Val, ρ' = up (up ρ x p) (x + 50) q := ⟨_, rfl⟩
  have e1 : ρ' x = p := by rw [hρ', up_other _ _ (by omega), up_same]
  have e2 : ρ' (x + 50) = q := by rw [hρ', up_same]
  have e3 : ∀ y, y ≠ x → y ≠ x + 50 → ρ' y = ρ y := fun y h1 h2 => by rw [hρ', up_other _ _ h2, up_other _ _ h1]
  have hρ : ∀ y, (m y).isSome = true → ρ' y = ρ y := fun y hy => e3 y (fun e => by subst e; simp [hx] at hy) (fun e => by subst e; simp [hx2] at hy)
  have hm : ∀ y b, rowM m x n sz el y = some b → (y = x + 50 ∧ b = .ro 0 0 fun _ => []) ∨ (y = x ∧ b = .ro sz n el) ∨ (y ≠ x ∧ y ≠ x + 50 ∧ m y = some b) := by
    intro y b hy
    unfold rowM at hy
    by_cases h1 : y = x + 50
    · subst h1
      rw [up_same] at hy
      injection hy with hy
      exact .inl ⟨rfl, hy.symm⟩
    · rw [up_other _ _ h1] at hy
      by_cases h2 : y = x
      · subst h2
        rw [up_same] at hy
        injection hy with hy
        exact .inr (.inl ⟨rfl, hy.symm⟩)
      · rw [up_other _ _ h2] at hy
        exact .inr (.inr ⟨h2, h1, hy⟩)
  have hp : 0 < n → g0 ≤ p.1 ∧ p.1 < w'.heap.size ∧ A = some ⟨p.1, p.2, none⟩ ∧ ∀ i, i < n → (el i).length = sz ∧ ∀ j, j < sz → w'.cell? ⟨p.1, p.2 + (i * sz + j), none⟩ = (el i)[j]? := by
    intro h0
    obtain ⟨b, o, rfl, h1, h2, h3⟩ := hr h0
    subst hp0
    exact ⟨h1, h2, rfl, h3⟩
  have hsome : ∀ y, (m y).isSome = true → (rowM m x n sz el y).isSome = true := fun y hy => isSome_rowM y hy
  refine ⟨ρ', hρ, ⟨h.fr, fun r hr => ?_, fun y b hy => ?_, fun y z b d hy hz hb hd hne => ?_⟩, ⟨?_, ?_, fun h0 => ?_, ?_⟩, ?_, fun y b hy hb => ?_⟩
  · have := h.bo r hr
    rw [e3 _ (by omega) (by omega)]; exact this
  · rcases hm y b hy with ⟨rfl, rfl⟩ | ⟨rfl, rfl⟩ | ⟨h1, h2, h3⟩
    · intro h0; omega
    · intro h0
      obtain ⟨_, h2, _, h3⟩ := hp h0
      rw [e1]
      exact ⟨h2, h3⟩
    · have hk := h.ok y b h3
      have ey : ρ' y = ρ y := e3 y h1 h2
      cases b with
      | var ty cells =>
        have hcm : cells.map (AC.conc ρ') = cells.map (AC.conc ρ) := List.map_congr_left fun c hm => AC.conc_mono hρ (hk.2.2.2 c hm)
        exact ⟨by rw [ey]; exact hk.1, by rw [ey]; exact hk.2.1, by rw [ey, hcm]; exact hk.2.2.1, fun c hc => AC.ok_mono hsome hρ (hk.2.2.2 c hc)⟩
      | arr ty sz n el room =>
        obtain ⟨k1, k2, a, ha, hs, he⟩ := hk
        exact ⟨by rw [ey]; exact k1, by rw [ey]; exact k2, a, by rw [ey]; exact ha, hs, he⟩
      | obj Q =>
        obtain ⟨k1, k2, a, ha, hs⟩ := hk
        exact ⟨by rw [ey]; exact k1, by rw [ey]; exact k2, a, by rw [ey]; exact ha, hs⟩
      | ro sz n el =>
        intro hn
        rw [ey]
        exact hk hn
      | say S R => exact hk
  · rcases hm y b hy with ⟨rfl, rfl⟩ | ⟨rfl, rfl⟩ | ⟨h1, h2, h3⟩
    · exact hb.elim
    · exact hb.elim
    · rcases hm z d hz with ⟨rfl, rfl⟩ | ⟨rfl, rfl⟩ | ⟨k1, k2, k3⟩
      · exact absurd hd (Nat.lt_irrefl 0)
      · have := hlt y b h3 hb
        have := (hp hd).1
        rw [e1, e3 y h1 h2]
        show ¬ _ = p.1
        omega
      · rw [e3 y h1 h2, e3 z k1 k2]
        exact h.ne y z b d h3 k3 hb hd hne
  · unfold rowM
    rw [up_other _ _ (by omega), up_same]; rfl
  · unfold rowM
    rw [up_same]; rfl
  · obtain ⟨h1, h2, h3, _⟩ := hp h0
    refine ⟨?_, by rw [e1]; exact h1⟩
    rw [e2, hq0, h3]
    exact Nat.one_ne_zero
  · rw [e2, hq0]
    exact hcn
  · simp only [AC.conc, rowAd, e1, e2, hq0, hp0]
    cases A with
    | none => rfl
    | some a =>
      have := hsp a rfl
      obtain ⟨b, o, s⟩ := a
      simp only at this
      subst this
      rfl
  · rcases hm y b hy with ⟨rfl, rfl⟩ | ⟨rfl, rfl⟩ | ⟨h1, h2, h3⟩
    · exact hb.elim
    · exact hb.elim
    · rw [e3 y h1 h2]; exact hlt y b h3 hb
theorem SatM.addL {w w' : World} {g : Nat} (hg : g ≤ w.heap.size) : ∀ (l : List RC) (q : List Nat) (cs : List Value) (m : Mem) (ρ : Val), SatM E ρ m w' → (∀ y b, m y = some b → b.own → (ρ y).1 < w.heap.size) → saysL w w' l cs → okN m l q →
    ∃ ρ' : Val, (∀ y, (m y).isSome = true → ρ' y = ρ y) ∧ (∀ y, (m y).isSome = true → (mL m l q y).isSome = true) ∧ SatM E ρ' (mL m l q) w' ∧ (∀ a ∈ acL g l q, a.ok ρ' (mL m l q)) ∧ (acL g l q).map (AC.conc ρ') = cs
  | [], q, [], m, ρ, h, _, _, _ => ⟨ρ, fun _ _ => rfl, fun _ h => h, h, fun a ha => (by cases ha), rfl⟩
  | [], q, _ :: _, m, ρ, _, _, hs, _ => hs.elim
  | _ :: _, q, [], m, ρ, _, _, hs, _ => by cases hs
  | .p v :: r, q, u :: s, m, ρ, h, hlt, hs, hn => by
    obtain ⟨ρ', h1, h2, h3, h4, h5⟩ := SatM.addL hg r q s m ρ h hlt hs.2 hn
    refine ⟨ρ', h1, h2, h3, fun a ha => ?_, ?_⟩
    · cases ha with
      | head => trivial
      | tail _ ha => exact h4 a ha
    · show AC.conc ρ' (.k v) :: (acL g r q).map (AC.conc ρ') = u :: s
      rw [h5]
      have : u = v := hs.1
      subst this
      rfl
  | .r n sz el :: r, [], u :: s, m, ρ, h, hlt, hs, hn => hn.elim
  | .r n sz el :: r, x :: q, u :: s, m, ρ, h, hlt, hs, hn => by
    obtain ⟨A, c, hu, hcn, hsp, hr⟩ := hs.1
    obtain ⟨k1, k2, k3, k4⟩ := hn
    obtain ⟨ρ1, g1, g2, g3, g4, g5⟩ := h.addRow hlt k1 k2 k3 hr hsp hcn
    obtain ⟨ρ', h1, h2, h3, h4, h5⟩ := SatM.addL hg r q s (rowM m x n sz el) ρ1 g2 g5 hs.2 k4
    have hsome : ∀ y, (m y).isSome = true → (rowM m x n sz el y).isSome = true := fun y hy => isSome_rowM y hy
    have okrow : AC.ok ρ' (mL (rowM m x n sz el) r q) (.row x n g) := by
      have o1 := AC.ok_mono h2 h1 g3
      exact ⟨o1.1, o1.2.1, fun h0 => ⟨(o1.2.2.1 h0).1, Nat.le_trans hg (o1.2.2.1 h0).2⟩, o1.2.2.2⟩
    refine ⟨ρ', fun y hy => (h1 y (hsome y hy)).trans (g1 y hy), fun y hy => h2 y (hsome y hy), h3, fun a ha => ?_, ?_⟩
    · cases ha with
      | head => exact okrow
      | tail _ ha => exact h4 a ha
    · show AC.conc ρ' (.row x n g) :: (acL g r q).map (AC.conc ρ') = u :: s
      rw [h5, hu, ← g4]
      congr 1
      have := AC.conc_mono h1 g3
      exact this
/-- What comes of an answer in the caller's state. -/
theorem SatM.answer {ρ : Val} {m : Mem} {w w' : World} (h : SatM E ρ m w) (hb : Below w.heap.size w w') {rvs : List RV} {cs : List Value} (hs : saysL w w' (flatV rvs) cs) (q : List Nat) (hn : okN m (flatV rvs) q) :
    ∃ ρ' : Val, (∀ y, (m y).isSome = true → ρ' y = ρ y) ∧ (∀ y, (m y).isSome = true → (mL m (flatV rvs) q y).isSome = true) ∧ SatM E ρ' (mL m (flatV rvs) q) w' ∧ (tvL (avL rvs (acL E.w0.heap.size (flatV rvs) q))).rep ρ' (mL m (flatV rvs) q) (tupV (valL rvs cs)) := by
  obtain ⟨ρ', h1, h2, h3, h4, h5⟩ := SatM.addL (w := w) (g := E.w0.heap.size) h.fr.size (flatV rvs) q cs m ρ (h.below hb) (fun y b hy ho => h.lt hy ho) hs hn
  refine ⟨ρ', h1, h2, h3, ?_⟩
  have := tvL_rep (avL_ok rvs (acL E.w0.heap.size (flatV rvs) q) h4)
  rw [avL_conc, h5] at this
  exact this
/-- A row that a call has made can be read. -/
theorem SatM.rowR {ρ : Val} {m : Mem} {w : World} (h : SatM E ρ m w) {x n sz n2 g : Nat} {el : Nat → List Value} (hx : m x = some (.ro sz n2 el)) (ho : AC.ok ρ m (.row x n g)) (hn : n ≤ n2) : RdRow w (rowAd ρ x) n sz el := by
  intro h0
  obtain ⟨h1, h2⟩ := h.ok x _ hx (by omega)
  exact ⟨(ρ x).1, (ρ x).2, if_neg (ho.2.2.1 h0).1, h1, fun i hi => h2 i (by omega)⟩
/-- A call whose answer has a shape. -/
theorem GO.callAns {ops : Array Oper} {rest : List Oper} {o : Oper} {c : Call} {f : FuncId} {avs : List AV} {caps : List Cap} {t : Nat → TV} {m : Mem} (rvs : List RV) (q : List Nat) (hg : o.guard = none) (hop : o.op = .call c) (he : callE t c = .mk f avs caps) (hd : dstOk E.N o.dst = true) (hn : okN m (flatV rvs) q)
    (hcf : ∀ (args : Array Value) (w : World), (callFunc f args).run P w = .ok (.enter f args) w)
    (hc : ∀ ρ w, SatM E ρ m w → (∀ v ∈ avs, v.ok ρ m) → Calls P f (avs.map (AV.conc ρ) ++ caps.map (Cap.conc ρ)).toArray w fun e w' => Ans w w' rvs e ∧ Below w.heap.size w w')
    (k : GO P E ops K rest ⟨Sx.putT t o.dst (tvL (avL rvs (acL E.w0.heap.size (flatV rvs) q))), mL m (flatV rvs) q⟩) : GO P E ops K (o :: rest) ⟨t, m⟩ := by
  refine GO.call hg hop he hcf (fun ρ a w hs hok _ => (hc ρ w hs.mem hok).mono ?_)
  rintro e w' ⟨⟨cs, hs1, rfl⟩, hb⟩
  obtain ⟨ρ', h1, h2, h3, h4⟩ := hs.mem.answer hb hs1 q hn
  exact ⟨_, ρ', _, rfl, (hs.move h3 h2 h1).putT (dstOk_lt hd) h4, k⟩
/-! ### In regions that draw -/
def msL : List RC → List Nat → List (Nat × Blk)
  | .p _ :: r, q => msL r q
  | .r n sz el :: r, x :: q => msL r q ++ [(x + 50, .ro 0 0 fun _ => []), (x, .ro sz n el)]
  | _, _ => []
theorem mget_app (a b : List (Nat × Blk)) (y : Nat) : mget (a ++ b) y = match mget a y with | some v => some v | none => mget b y := by
  induction a with
  | nil => rfl
  | cons p r ih =>
    simp only [List.cons_append, mget]
    cases Nat.beq y p.1 with
    | true => rfl
    | false => exact ih
theorem upm_msL : ∀ (l : List RC) (q : List Nat) (m : Mem), upm m (msL l q) = mL m l q
  | [], q, m => by cases q <;> rfl
  | .p _ :: r, q, m => upm_msL r q m
  | .r .. :: _, [], m => rfl
  | .r n sz el :: r, x :: q, m => by
    show upm m (msL r q ++ _) = mL (rowM m x n sz el) r q
    rw [← upm_msL r q]
    funext y
    simp only [upm, mget_app, rowM, up, mget]
    cases mget (msL r q) y with
    | some v => rfl
    | none =>
      cases Nat.beq y (x + 50) with
      | true => rfl
      | false => cases Nat.beq y x <;> rfl
theorem okN_same : ∀ {l : List RC} {q : List Nat} {m m' : Mem}, (∀ y, (mget (msL l q) y).isSome = true → m' y = m y) → okN m l q → okN m' l q
  | [], q, _, _, _, _ => by cases q <;> trivial
  | .p _ :: r, q, m, m', hq, h => okN_same (l := r) (q := q) hq h
  | .r .. :: _, [], _, _, _, h => h.elim
  | .r n sz el :: r, x :: q, m, m', hq, h => by
    obtain ⟨h1, h2, h3, h4⟩ := h
    have at1 : ∀ y, (y = x ∨ y = x + 50) → m' y = m y := fun y hy => hq y (by
      show (mget (msL r q ++ _) y).isSome = true
      rw [mget_app]
      cases mget (msL r q) y with
      | some v => rfl
      | none =>
        simp only [mget]
        rcases hy with rfl | rfl
        · cases Nat.beq y (y + 50) <;> simp
        · simp)
    refine ⟨by rw [at1 x (.inl rfl)]; exact h1, by rw [at1 _ (.inr rfl)]; exact h2, h3, okN_same (fun y hy => ?_) h4⟩
    have : m' y = m y := hq y (by
      show (mget (msL r q ++ _) y).isSome = true
      rw [mget_app]
      cases hm : mget (msL r q) y with
      | some v => rfl
      | none => rw [hm] at hy; cases hy)
    simp only [rowM, up, this]
theorem Steps.callAns {ops : Array Oper} {o : Oper} {c : Call} {f : FuncId} {avs : List AV} {caps : List Cap} {C : St} (rvs : List RV) (q : List Nat) (hg : o.guard = none) (hop : o.op = .call c) (he : callE C.t c = .mk f avs caps) (hd : dstOk E.N o.dst = true) (hn : okN C.m (flatV rvs) q)
    (hcf : ∀ (args : Array Value) (w : World), (callFunc f args).run P w = .ok (.enter f args) w)
    (hc : ∀ m, LeM C.m m → ∀ ρ w, SatM E ρ m w → (∀ v ∈ avs, v.ok ρ m) → Calls P f (avs.map (AV.conc ρ) ++ caps.map (Cap.conc ρ)).toArray w fun e w' => Ans w w' rvs e ∧ Below w.heap.size w w') :
    Steps P E ops o C (tvL (avL rvs (acL E.w0.heap.size (flatV rvs) q))) (msL (flatV rvs) q) := by
  intro st hle ρ a w hs Kc Q hk
  have hs' := hs.weakT hle.t
  obtain ⟨hr, hok, hok2⟩ := call_run hs' hop he hcf
  rw [if_pos (by simp [Region.wanted, hg])]
  refine .inl ?_
  unfold Oper.wp
  rw [hr]
  refine (hc st.m hle.m ρ w hs.mem hok).mono ?_
  rintro e w' ⟨⟨cs, hs1, rfl⟩, hb⟩
  obtain ⟨ρ', h1, h2, h3, h4⟩ := hs.mem.answer hb hs1 q (okN_same hle.n hn)
  refine hk ρ' _ w' ?_
  rw [upm_msL]
  exact (hs.move h3 h2 h1).putT (dstOk_lt hd) h4
theorem GD.callAns {l : List Oper} {cls : List Nat} {X : List (Nat × Nat)} {base : St} {recs : List DR} {o : Oper} {rest : List Oper} {t : Nat → TV} {m : Mem} {c : Call} {f : FuncId} {avs : List AV} {caps : List Cap} (rvs : List RV) (q : List Nat) (i : Nat) (hi : recs.length = i) (hg : o.guard = none) (hop : o.op = .call c) (he : callE (canF l cls X base i recs).t c = .mk f avs caps) (hd : dstOk E.N o.dst = true)
    (hn : okN (canF l cls X base i recs).m (flatV rvs) q) (hw : Wok X i o (msL (flatV rvs) q) = true)
    (hcf : ∀ (args : Array Value) (w : World), (callFunc f args).run P w = .ok (.enter f args) w)
    (hc : ∀ m, LeM (canF l cls X base i recs).m m → ∀ ρ w, SatM E ρ m w → (∀ v ∈ avs, v.ok ρ m) → Calls P f (avs.map (AV.conc ρ) ++ caps.map (Cap.conc ρ)).toArray w fun e w' => Ans w w' rvs e ∧ Below w.heap.size w w')
    (k : GD P E K l cls X base (⟨o, tvL (avL rvs (acL E.w0.heap.size (flatV rvs) q)), msL (flatV rvs) q⟩ :: recs) rest (Sx.putT t o.dst (tvL (avL rvs (acL E.w0.heap.size (flatV rvs) q)))) (upm m (msL (flatV rvs) q))) : GD P E K l cls X base recs (o :: rest) t m := by
  rw [canF_eq hi] at he hn hc
  exact GD.step (Steps.callAns rvs q hg hop he hd hn hcf hc) (by rw [hi]; exact hw) k
/-- An operation under a guard that is known to let it run (one that makes a block, too). -/
theorem Steps.opT (hT : Tab.fine P T) {ops : Array Oper} {o : Oper} {C : St} {j : Nat} {want cb : Bool} {av : AV} {m' : Mem} {obs : List Prop} (hct : cb = true) (hg : o.guard = some (j, want)) (hb : guardB ops C.t j want = some cb)
    (hob : AllP (stripObs C.t j want cb (slotsOf o.op.operands.toList))) (hd : dstOk E.N o.dst = true) (h : evOp T (dx o) (evG C.t j want (slotsOf o.op.operands.toList)) C.m o.op = .ok (.v av) m' obs) (ho : AllP obs) :
    Steps P E ops o C (.grd j want cb av) (msOf (evG C.t j want (slotsOf o.op.operands.toList)) (dx o) o.op m') := by
  subst hct
  intro st hle ρ a w hs Kc Q hk
  have hs' := hs.weakT hle.t
  have hw := wanted_cond (ops := ops) hs' hg hb
  rw [hw, if_pos rfl]
  have hsnd := evOp_sound (P := P) (E := E) (o := o) hT hs.mem (fun _ => rfl) (evG_rep hs' hob rfl) rfl (evOp_mem hle.m hle.d h) ho
  refine .inl ?_
  refine Snd.go hs (dstOk_lt hd) (tv := .grd j want true av) ?_ fun ρ' a' w' hs'' => hk ρ' a' w' hs''
  obtain ⟨n, w', ρ', h1, h2, h3, h4, h5⟩ := hsnd
  refine ⟨n, w', ρ', h1, ?_, h3, h4, h5⟩
  rcases h2 with ⟨v, hn, hv⟩ | ⟨_, hn⟩
  · exact .inl ⟨v, hn, fun _ => hv, fun hf => (by cases hf)⟩
  · cases hn
theorem GD.opT (hT : Tab.fine P T) {l : List Oper} {cls : List Nat} {X : List (Nat × Nat)} {base : St} {recs : List DR} {o : Oper} {rest : List Oper} {t : Nat → TV} {m : Mem} {j : Nat} {want cb : Bool} {av : AV} {m' : Mem} {obs : List Prop} {ms : List (Nat × Blk)} (i : Nat) (hi : recs.length = i) (hct : cb = true) (hg : o.guard = some (j, want)) (hb : guardB l.toArray (canF l cls X base i recs).t j want = some cb)
    (hob : AllP (stripObs (canF l cls X base i recs).t j want cb (slotsOf o.op.operands.toList))) (hd : dstOk E.N o.dst = true) (h : evOp T (dx o) (evG (canF l cls X base i recs).t j want (slotsOf o.op.operands.toList)) (canF l cls X base i recs).m o.op = .ok (.v av) m' obs) (ho : AllP obs)
    (hms : msOf (evG (canF l cls X base i recs).t j want (slotsOf o.op.operands.toList)) (dx o) o.op m' = ms) (hw : Wok X i o ms = true)
    (k : GD P E K l cls X base (⟨o, .grd j want cb av, ms⟩ :: recs) rest (Sx.putT t o.dst (.grd j want cb av)) (upm m ms)) : GD P E K l cls X base recs (o :: rest) t m := by
  subst hms
  rw [canF_eq hi] at hb hob h hw k
  exact GD.step (Steps.opT hT hct hg hb hob hd h ho) (by rw [hi]; exact hw) k
theorem Steps.callAnsT {ops : Array Oper} {o : Oper} {c : Call} {j : Nat} {want cb : Bool} {f : FuncId} {avs : List AV} {caps : List Cap} {C : St} {av : AV} (rvs : List RV) (q : List Nat) (hct : cb = true) (hg : o.guard = some (j, want)) (hb : guardB ops C.t j want = some cb) (hop : o.op = .call c)
    (hob : AllP (stripObs C.t j want cb (slotsOf o.op.operands.toList))) (he : callE (tG C.t j want (slotsOf o.op.operands.toList)) c = .mk f avs caps) (hd : dstOk E.N o.dst = true) (hn : okN C.m (flatV rvs) q)
    (hcf : ∀ (args : Array Value) (w : World), (callFunc f args).run P w = .ok (.enter f args) w) (hav : tvL (avL rvs (acL E.w0.heap.size (flatV rvs) q)) = .v av)
    (hc : ∀ m, LeM C.m m → ∀ ρ w, SatM E ρ m w → (∀ v ∈ avs, v.ok ρ m) → Calls P f (avs.map (AV.conc ρ) ++ caps.map (Cap.conc ρ)).toArray w fun e w' => Ans w w' rvs e ∧ Below w.heap.size w w') :
    Steps P E ops o C (.grd j want cb av) (msL (flatV rvs) q) := by
  subst hct
  intro st hle ρ a w hs Kc Q hk
  have hs' := hs.weakT hle.t
  have hw := wanted_cond (ops := ops) hs' hg hb
  rw [hw, if_pos rfl]
  obtain ⟨hr, hok, hok2⟩ := call_run (hs'.tG hob rfl) hop he hcf
  refine .inl ?_
  unfold Oper.wp
  rw [hr]
  refine (hc st.m hle.m ρ w hs.mem hok).mono ?_
  rintro e w' ⟨⟨cs, hs1, rfl⟩, hb⟩
  obtain ⟨ρ', h1, h2, h3, h4⟩ := hs.mem.answer hb hs1 q (okN_same hle.n hn)
  rw [hav] at h4
  refine hk ρ' _ w' ?_
  rw [upm_msL]
  exact (hs.move h3 h2 h1).putT (dstOk_lt hd) (tv := .grd j want true av) ⟨fun _ => h4, fun hf => (by cases hf)⟩
theorem GD.callAnsT {l : List Oper} {cls : List Nat} {X : List (Nat × Nat)} {base : St} {recs : List DR} {o : Oper} {rest : List Oper} {t : Nat → TV} {m : Mem} {c : Call} {j : Nat} {want cb : Bool} {f : FuncId} {avs : List AV} {caps : List Cap} {av : AV} (rvs : List RV) (q : List Nat) (i : Nat) (hi : recs.length = i) (hct : cb = true) (hg : o.guard = some (j, want)) (hb : guardB l.toArray (canF l cls X base i recs).t j want = some cb) (hop : o.op = .call c)
    (hob : AllP (stripObs (canF l cls X base i recs).t j want cb (slotsOf o.op.operands.toList))) (he : callE (tG (canF l cls X base i recs).t j want (slotsOf o.op.operands.toList)) c = .mk f avs caps) (hd : dstOk E.N o.dst = true) (hn : okN (canF l cls X base i recs).m (flatV rvs) q) (hw : Wok X i o (msL (flatV rvs) q) = true)
    (hcf : ∀ (args : Array Value) (w : World), (callFunc f args).run P w = .ok (.enter f args) w) (hav : tvL (avL rvs (acL E.w0.heap.size (flatV rvs) q)) = .v av)
    (hc : ∀ m, LeM (canF l cls X base i recs).m m → ∀ ρ w, SatM E ρ m w → (∀ v ∈ avs, v.ok ρ m) → Calls P f (avs.map (AV.conc ρ) ++ caps.map (Cap.conc ρ)).toArray w fun e w' => Ans w w' rvs e ∧ Below w.heap.size w w')
    (k : GD P E K l cls X base (⟨o, .grd j want cb av, msL (flatV rvs) q⟩ :: recs) rest (Sx.putT t o.dst (.grd j want cb av)) (upm m (msL (flatV rvs) q))) : GD P E K l cls X base recs (o :: rest) t m := by
  rw [canF_eq hi] at hb hob he hn hc
  exact GD.step (Steps.callAnsT rvs q hct hg hb hop hob he hd hn hcf hav hc) (by rw [hi]; exact hw) k
end
/-! ### On the callee's side -/
/-- A row in memory that is ours or that a call of ours has made. -/
def rowC (g : Nat) (m : Mem) (n sz : Nat) (el : Nat → List Value) : AC → Prop
  | .k (.slice A len c) => len = n ∧ n = 0 ∧ ∀ a, A = some a → a.spot = none
  | .slc x i0 sz' len c => n ≤ c ∧ rowAt m n sz el (.v (.c (.slc x i0 sz' len c)))
  | .row x len g' => len = n ∧ g ≤ g' ∧ ∃ n2 el2, m x = some (.ro sz n2 el2) ∧ n ≤ n2 ∧ ∀ i, i < n → el i = el2 i
  | _ => False
def cellAt (g : Nat) (m : Mem) : RC → AC → Prop
  | .p v, a => a = .k v
  | .r n sz el, a => rowC g m n sz el a
def cellsAt (g : Nat) (m : Mem) : List RC → List AC → Prop
  | [], [] => True
  | a :: r, b :: s => cellAt g m a b ∧ cellsAt g m r s
  | _, _ => False
def avAt (g : Nat) (m : Mem) : RV → AV → Prop
  | .c a, .c b => cellAt g m a b
  | .agg l, .agg k => cellsAt g m l k
  | _, _ => False
def resAt (T : Tab) (g : Nat) (st : St) : List RV → List ResultVar → Prop
  | [], [] => True
  | rv :: r, x :: s => (∃ av, resOne T st x = .v av ∧ avAt g st.m rv av) ∧ resAt T g st r s
  | _, _ => False
section
variable {P : Program} {E : Env} {K : Exit → St → Prop} {T : Tab}
theorem cellAt_says {w0 : World} {N : Nat} {ρ : Val} {m : Mem} {w : World} (hm : SatM ⟨w0, [], N, none, []⟩ ρ m w) {rc : RC} {a : AC} (ha : a.ok ρ m) (h : cellAt w0.heap.size m rc a) : rc.says w0 w (a.conc ρ) := by
  cases rc with
  | p v =>
    have : a = .k v := h
    subst this
    rfl
  | r n sz el =>
    cases a with
    | k v =>
      cases v with
      | slice A len c =>
        obtain ⟨rfl, rfl, h3⟩ := h
        exact ⟨A, c, rfl, Nat.zero_le _, h3, fun h0 => absurd h0 (Nat.lt_irrefl 0)⟩
      | _ => exact h.elim
    | slc x i0 sz' len c =>
      obtain ⟨h1, h2⟩ := h
      obtain ⟨A, c', h3, h4⟩ := rowAt_new hm (tv := .v (.c (.slc x i0 sz' len c))) (v := AC.conc ρ (.slc x i0 sz' len c)) ⟨ha, rfl⟩ h2
      have h5 : Value.slice (some ⟨(ρ x).1, (ρ x).2 + i0 * sz', none⟩) len c = .slice A n c' := h3
      injection h5 with e1 e2 e3
      subst e1; subst e2; subst e3
      exact ⟨_, c, rfl, h1, fun a ha => by injection ha with ha; subst ha; rfl, h4⟩
    | row x len g' =>
      obtain ⟨rfl, hg, n2, el2, hx, hn, hel⟩ := h
      obtain ⟨o1, o2, o3, o4⟩ := ha
      refine ⟨rowAd ρ x, _, rfl, o4, fun a ha => ?_, fun h0 => ?_⟩
      · unfold rowAd at ha
        split at ha
        · cases ha
        · injection ha with ha; subst ha; rfl
      · obtain ⟨h1, h2⟩ := hm.ok x _ hx (by omega)
        refine ⟨(ρ x).1, (ρ x).2, if_neg (o3 h0).1, Nat.le_trans hg (o3 h0).2, h1, fun i hi => ?_⟩
        rw [hel i hi]
        exact h2 i (by omega)
    | _ => exact h.elim
theorem cellsAt_says {w0 : World} {N : Nat} {ρ : Val} {m : Mem} {w : World} (hm : SatM ⟨w0, [], N, none, []⟩ ρ m w) : ∀ {l : List RC} {k : List AC}, (∀ a ∈ k, a.ok ρ m) → cellsAt w0.heap.size m l k → saysL w0 w l (k.map (AC.conc ρ)) ∧ k.length = l.length
  | [], [], _, _ => ⟨trivial, rfl⟩
  | [], _ :: _, _, h => h.elim
  | _ :: _, [], _, h => h.elim
  | a :: r, b :: s, ho, h => by
    obtain ⟨h1, h2⟩ := cellsAt_says hm (l := r) (k := s) (fun a ha => ho a (.tail _ ha)) h.2
    exact ⟨⟨cellAt_says hm (ho b (.head _)) h.1, h1⟩, by simp [h2]⟩
theorem saysL_app {w w' : World} : ∀ {a b : List RC} {x y : List Value}, saysL w w' a x → saysL w w' b y → saysL w w' (a ++ b) (x ++ y)
  | [], b, [], y, _, h => h
  | [], _, _ :: _, _, h, _ => h.elim
  | _ :: _, _, [], _, h, _ => h.elim
  | a :: r, b, u :: s, y, h, h2 => ⟨h.1, saysL_app h.2 h2⟩
theorem resAt_run (hT : Tab.fine P T) {w0 : World} {N : Nat} {st : St} {ρ : Val} {a : Act} {w : World} (hs : Sat ⟨w0, [], N, none, []⟩ ρ st a w) : ∀ {rvs : List RV} {l : List ResultVar}, resAt T w0.heap.size st rvs l →
    ∃ us cs, (l.mapM (m := Sem) (resSem a)).run P w = .ok us w ∧ saysL w0 w (flatV rvs) cs ∧ us = valL rvs cs
  | [], [], _ => ⟨[], [], rfl, trivial, rfl⟩
  | [], _ :: _, h => h.elim
  | _ :: _, [], h => h.elim
  | rv :: r, x :: s, h => by
    obtain ⟨⟨av, h1, h2⟩, h3⟩ := h
    obtain ⟨us, cs, h4, h5, h6⟩ := resAt_run hT hs h3
    obtain ⟨h7, h8⟩ := resOne_run hT hs h1
    cases rv with
    | c rc =>
      cases av with
      | c b =>
        refine ⟨b.conc ρ :: us, b.conc ρ :: cs, by simp only [List.mapM_cons, Sem.run_bind, h7, h4, Result.andThen_ok, Sem.run_pure]; rfl, ⟨cellAt_says hs.mem h8 h2, h5⟩, by rw [h6]; rfl⟩
      | agg k => exact h2.elim
    | agg l =>
      cases av with
      | c b => exact h2.elim
      | agg k =>
        obtain ⟨g1, g2⟩ := cellsAt_says hs.mem h8 h2
        refine ⟨(AV.agg k).conc ρ :: us, k.map (AC.conc ρ) ++ cs, by simp only [List.mapM_cons, Sem.run_bind, h7, h4, Result.andThen_ok, Sem.run_pure], saysL_app g1 h5, ?_⟩
        have e1 : (k.map (AC.conc ρ) ++ cs).take l.length = k.map (AC.conc ρ) := by rw [← g2, ← @List.length_map _ _ k (AC.conc ρ), List.take_left]
        have e2 : (k.map (AC.conc ρ) ++ cs).drop l.length = cs := by rw [← g2, ← @List.length_map _ _ k (AC.conc ρ), List.drop_left]
        simp only [valL, e1, e2, h6, AV.conc]
theorem tupV_results {P : Program} {fn : Func} {a : Act} {w : World} {us : List Value} (h : (fn.results.toList.mapM (m := Sem) (resSem a)).run P w = .ok us w) : (results fn a.tmps).run P w = .ok (tupV us) w := by
  have e : results fn a.tmps = (fn.results.mapM (m := Sem) (resSem a) >>= fun vs => pure (if h : vs.size = 1 then vs[0] else Value.tuple vs)) := by
    unfold results
    congr 2
  have h3 : (fn.results.mapM (m := Sem) (resSem a)).run P w = .ok us.toArray w := by
    rw [Array.mapM_eq_mapM_toList]
    simp only [Sem.run_map, h, Result.andThen_ok]
  rw [e]
  simp only [Sem.run_bind, h3, Result.andThen_ok, Sem.run_pure]
  congr 1
  match us with
  | [u] => rfl
  | [] => rfl
  | u :: u' :: r => rfl
def endAns (T : Tab) (fn : Func) (g : Nat) (rvs : List RV) : Exit → St → Prop := fun e st => (e = .ret ∨ e = .normal) ∧ resAt T g st rvs fn.results.toList
theorem enterAns (hT : Tab.fine P T) {f : FuncId} {fn : Func} {c : Code} {args : Array Value} {w : World} (rvs : List RV) (hf : P.funcs[f]? = some fn) (hb : fn.body = some c) (N : Nat) (hN : fn.ntmps = N) (avs : List AV) (l : List Inp)
    (hargs : args = (avs.map (AV.conc (inpsV l))).toArray) (hl : Nat.ble avs.length N = true) (hr : allRd w l) (ha : allInps l avs)
    (h : G P ⟨w, [], N, none, []⟩ (endAns T fn w.heap.size rvs) c ⟨argsT avs, lkM (inpsM l)⟩) : Calls P f args w fun e w' => Ans w w' rvs e ∧ Below w.heap.size w w' := by
  subst hN
  refine enter rfl (E := ⟨w, [], fn.ntmps, none, []⟩) hf hb (inpsV l) (Sat.init hr ha hargs (Nat.le_of_ble_eq_true hl)) (h.mono fun e st hk => ⟨hk.1, fun ρ a w' hs => ?_⟩)
  obtain ⟨us, cs, h1, h2, h3⟩ := resAt_run hT hs hk.2
  exact ⟨_, tupV_results h1, ⟨cs, h2, by rw [h3]⟩, hs.mem.fr.toBelow⟩
theorem endAns.ret {fn : Func} {g : Nat} {rvs : List RV} {st : St} (h : resAt T g st rvs fn.results.toList) : endAns T fn g rvs .ret st := ⟨.inl rfl, h⟩
theorem endAns.norm {fn : Func} {g : Nat} {rvs : List RV} {st : St} (h : resAt T g st rvs fn.results.toList) : endAns T fn g rvs .normal st := ⟨.inr rfl, h⟩
/-! ### A whole array's element -/
theorem dropK_eq {l : List AC} {n : Nat} {K : List AC → RR} (h : n ≤ l.length) : dropK l n K = K (l.drop n) := by
  induction n generalizing l with
  | zero => cases l <;> rfl
  | succ n ih =>
    cases l with
    | nil => simp at h
    | cons a r => exact ih (by simpa using h)
theorem GO.indexAt (hT : Tab.fine P T) {ops : Array Oper} {rest : List Oper} {o : Oper} {t e d N : Nat} {y i : Operand} {dd de : TyD} {t0 : Nat → TV} {m : Mem} {kd : IntKind} (vs : List Value) (k : Nat) (v : Value) (hg : o.guard = none) (hop : o.op = .index t y i) (hd : o.dst = some d) (hdN : Nat.blt d E.N = true)
    (ht : T t = some dd) (hk : dd.kind = .array N e) (he : T e = some de) (h1 : de.size = 1) (ha : de.kind.isAgg = false) (hy : evT t0 y = .v (.agg (vs.map .k))) (hi : evT t0 i = .v (.c (.k (.int kd (k : Int))))) (hv : vs[k]? = some v) (hkN : k < N)
    (cont : GO P E ops K rest ⟨up t0 d (.v (.c (.k v))), m⟩) : GO P E ops K (o :: rest) ⟨t0, m⟩ := by
  have hlt : k < vs.length := (List.getElem?_eq_some_iff.1 hv).1
  have hev : evIndex T m t (evT t0 y) (evT t0 i) = .ok (.v (.c (.k v))) m [0 ≤ (k : Int), (k : Int) < (N : Int)] := by
    rw [hy, hi]
    unfold evIndex
    simp only [ht, hk, he, h1, ha, Int.toNat_natCast, Nat.mul_one]
    rw [dropK_eq (by simp; omega)]
    have : (vs.map AC.k).drop k = .k v :: (vs.map AC.k).drop (k + 1) := by
      rw [List.drop_eq_getElem_cons (by simpa using hlt)]
      congr 1
      simp only [List.getElem_map]
      congr 1
      have := List.getElem?_eq_getElem hlt
      rw [this] at hv
      injection hv
    rw [this]
    generalize (vs.map AC.k).drop (k + 1) = r
    cases r <;> rfl
  have hstep : stepE T E.N ops t0 m o = .ok (.v (.c (.k v))) m [0 ≤ (k : Int), (k : Int) < (N : Int)] := by
    unfold stepE
    have : dstOk E.N o.dst = true := by rw [hd]; exact hdN
    rw [this, hg, hd, hop]
    exact hev
  exact GO.step (st := ⟨t0, m⟩) hT hstep ⟨by omega, by omega, trivial⟩ (by rw [hd]; exact cont)
theorem GO.emptySliceS {ops : Array Oper} {rest : List Oper} {o : Oper} {t e d : Nat} {t0 : Nat → TV} {m : Mem} {dd : TyD} (hT : Tab.fine P T) (hg : o.guard = none) (hop : o.op = .buildSlice t 0 #[]) (hd : o.dst = some d) (hdN : Nat.blt d E.N = true) (ht : T t = some dd) (hk : dd.kind = .slice e) {de : TyD} (he : T e = some de)
    (k : ∀ A, (∀ a : Addr, A = some a → a.spot = none) → GO P E ops K rest ⟨up t0 d (.v (.c (.k (.slice A 0 0)))), m⟩) : GO P E ops K (o :: rest) ⟨t0, m⟩ := by
  intro ρ a w hs
  have hkind := (hT.ok t dd ht).kind
  rw [hk] at hkind
  have hsz := (hT.ok e de he).size w
  have hrun : (execOp a.eval o).run P w = .ok (.value (.slice (some ⟨w.heap.size, 0, none⟩) 0 0)) (w.alloc (.cells #[] e)) := by
    simp [execOp, hop, Instr.buildSlice, hkind w, hsz, Instr.fill, newRow]
    rw [show (w.alloc (.cells #[] e)) = w.alloc (.cells (Array.map (fun _ => (default : Value)) (Array.range 0)) e) by rw [show (Array.map (fun _ => (default : Value)) (Array.range 0)) = #[] from by apply Array.toList_inj.1; simp]]
  unfold wpL
  rw [if_pos (by simp [Region.wanted, hg])]
  refine .inl ?_
  unfold Oper.wp
  rw [hrun]
  refine k (some ⟨w.heap.size, 0, none⟩) (fun a ha => by injection ha with ha; subst ha; rfl) ρ _ _ ?_
  rw [hd]
  exact (hs.below ((Below.refl _ _).alloc (Nat.le_refl _) _)).put (by simpa [Nat.blt_eq] using hdN) ⟨trivial, rfl⟩
/-! ### A list that grows from nothing on -/
def accV (d sz n c : Nat) : AC := match n with
  | 0 => .k (.slice none 0 0)
  | n + 1 => .slc d 0 sz (n + 1) c
theorem GO.appendAcc {ops : Array Oper} {rest : List Oper} {o : Oper} {s y : Operand} {t e size bytes d n c : Nat} {z : Value} {t0 : Nat → TV} {m : Mem} {el : Nat → List Value} {q c1 : Nat} {ty1 : TypeId} (vs : List Value) (tl : List (Nat × TV)) (ml : List (Nat × Blk)) (hp : ApT P t e size bytes z) (hg : o.guard = none) (hop : o.op = .call { callee := .builtin .append, args := #[s, y], argTypes := #[t, t] })
    (hd : o.dst = some d) (hdN : Nat.blt d E.N = true) (hdb : Nat.blt d 1000 = true) (hs : evT t0 s = .v (.c (accV d size n c))) (hx : 0 < n → m d = some (.arr e size n el ((c - n) * size)))
    (hy : evT t0 y = .v (.c (.slc q 0 size 1 c1))) (hq : m q = some (.var ty1 (vs.map .k))) (hv : vs.length = size) (h1 : ∀ u ∈ vs, u.oneCell' = true)
    (hle : St.le E (St.of tl ml) ⟨t0, m⟩) (hfr : ∀ z b, (St.of tl ml).m z = some b → m z = some b ∧ z ≠ d) (hlen : ∀ k, k < n → (el k).length = size) (b1 : n + 1 ≤ maxLen) (b2 : (n + 1) * bytes ≤ 140737488355328)
    (k : ∀ c', n + 1 ≤ c' → GO P E ops K rest ⟨up (St.of tl ml).t d (.v (.c (.slc d 0 size (n + 1) c'))), up (St.of tl ml).m d (some (.arr e size (n + 1) (elN el n vs) ((c' - (n + 1)) * size)))⟩) : GO P E ops K (o :: rest) ⟨t0, m⟩ := by
  have hfree : (St.of tl ml).m d = none := by
    cases h : (St.of tl ml).m d with
    | none => rfl
    | some b => exact absurd rfl (hfr d b h).2
  cases n with
  | succ n => exact GO.appendOwn vs tl ml hp hg hop hd hdN hdb hdb hs (hx (Nat.succ_pos n)) (Nat.le_refl _) hy hq hv h1 hle hfr hfree hlen b1 b2 k
  | zero =>
    intro ρ a w hsat
    have hs0 := hle ρ a w hsat
    have es : a.eval s = .slice none 0 0 := by have := hsat.eval s; simp only [St.ev, hs] at this; exact this.2
    have ex := hsat.eval y
    simp only [St.ev, hy] at ex
    obtain ⟨B, cc, e3, hr⟩ := (RowOf.var (P := P) (E := E) (c := c1) (n := 1) (sz := size) hq (by omega)) ρ w hsat.mem ex.1
    have hone : ∀ i, i < 1 → elN el 0 vs i = vs := fun i hi => by
      have : i = 0 := by omega
      subst this
      exact elN_eq
    have hr' : RdRow w B 1 size (elN el 0 vs) := hr.congr fun i hi => by
      rw [hone i hi]
      have : i = 0 := by omega
      subst this
      simp [← hv]
    have ex : a.eval y = .slice B 1 cc := ex.2.trans e3
    unfold wpL
    rw [if_pos (by simp [Region.wanted, hg])]
    refine .inl ?_
    unfold Oper.wp
    rcases append_new (ty := o.type) hp (A := none) (c := cc) hr' (fun i hi u hu => h1 u (by rw [hone i hi] at hu; exact hu)) (by omega) (by omega) with ⟨h0, _⟩ | ⟨h0, v', w', hrun, r1, r2⟩
    · cases h0
    · have : (execOp a.eval o).run P w = .ok (.value v') w' := by
        simp [execOp, hop, resolve, invoke, builtin, es, ex, hrun, Result.andThen]
      rw [this]
      obtain ⟨ρ', c', h2, h3, h4, h5⟩ := hs0.mem.newOwn hfree (by simpa [Nat.blt_eq] using hdb) (fun i hi => by rw [hone i hi]; exact hv) h0 r1 r2
      refine k c' h2 ρ' _ w' ?_
      rw [hd]
      refine (hs0.move h4 (fun y hy => isSome_up y hy) h3).put (by simpa [Nat.blt_eq] using hdN) ⟨?_, h5⟩
      show (up (St.of tl ml).m d _ d).isSome = true
      rw [up_same]; rfl
def accMl (d : Nat) (e : TypeId) (sz n c : Nat) (el : Nat → List Value) : List (Nat × Blk) := match n with
  | 0 => []
  | n + 1 => [(d, .arr e sz (n + 1) el ((c - (n + 1)) * sz))]
theorem rowC_acc {g : Nat} {m : Mem} {d sz n c : Nat} {e : TypeId} {el el2 : Nat → List Value} {room : Nat} (hc : n ≤ c) (hm : 0 < n → m d = some (.arr e sz n el2 room)) (he : ∀ i, i < n → el i = el2 i) : rowC g m n sz el (accV d sz n c) := by
  cases n with
  | zero => exact ⟨rfl, rfl, fun a h => by cases h⟩
  | succ n =>
    refine ⟨hc, rfl, rfl, ?_⟩
    rw [hm (Nat.succ_pos n)]
    exact ⟨rfl, by omega, fun i hi => by rw [Nat.zero_add]; exact he i hi⟩
/-! ### Another name for where a row lay -/
def aliasL (x y : Nat) : List AC → List AC → Prop
  | [], [] => True
  | a :: r, b :: s => (b = a ∨ ∃ i sz n c, a = .slc x i sz n c ∧ b = .slc y i sz n c) ∧ aliasL x y r s
  | _, _ => False
theorem aliasL_conc {x y : Nat} {ρ ρ' : Val} {m m' : Mem} (hy : ρ' y = ρ x) (hs : ∀ z, (m z).isSome = true → (m' z).isSome = true) (hm : (m' y).isSome = true) (hρ : ∀ z, (m z).isSome = true → ρ' z = ρ z) : ∀ {a b : List AC}, aliasL x y a b → (∀ c ∈ a, c.ok ρ m) → b.map (AC.conc ρ') = a.map (AC.conc ρ) ∧ ∀ c ∈ b, c.ok ρ' m'
  | [], [], _, _ => ⟨rfl, fun c h => by cases h⟩
  | [], _ :: _, h, _ => h.elim
  | _ :: _, [], h, _ => h.elim
  | a :: r, b :: s, h, ho => by
    obtain ⟨h1, h2⟩ := aliasL_conc hy hs hm hρ h.2 fun c hc => ho c (.tail _ hc)
    have oa := ho a (.head _)
    have : b.conc ρ' = a.conc ρ ∧ b.ok ρ' m' := by
      rcases h.1 with rfl | ⟨i, sz, n, c, rfl, rfl⟩
      · exact ⟨AC.conc_mono hρ oa, AC.ok_mono hs hρ oa⟩
      · exact ⟨by simp only [AC.conc, hy], hm⟩
    refine ⟨by rw [List.map_cons, List.map_cons, h1, this.1], fun c hc => ?_⟩
    cases hc with
    | head => exact this.2
    | tail _ hc => exact h2 c hc
theorem GO.alias {ops : Array Oper} {rest : List Oper} {t : Nat → TV} {m : Mem} {z : Nat} {ty : TypeId} {cells : List AC} (x y : Nat) (cells' : List AC) (hx : (m x).isSome = true) (hy : m y = none) (hyb : Nat.blt y 1000 = true) (hz : m z = some (.var ty cells)) (hc : aliasL x y cells cells')
    (k : GO P E ops K rest ⟨t, up (up m y (some (.ro 0 0 fun _ => []))) z (some (.var ty cells'))⟩) : GO P E ops K rest ⟨t, m⟩ := by
  intro ρ a w hs
  have hyb : y < 1000 := by simpa [Nat.blt_eq] using hyb
  have hzy : z ≠ y := fun e => by subst e; rw [hy] at hz; cases hz
  obtain ⟨m', hm'⟩ : ∃ m', m' = up (up m y (some (.ro 0 0 fun _ => []))) z (some (.var ty cells')) := ⟨_, rfl⟩
  obtain ⟨ρ', hρ'⟩ : ∃ ρ' : Val, ρ' = up ρ y (ρ x) := ⟨_, rfl⟩
  have hρ : ∀ q, (m q).isSome = true → ρ' q = ρ q := fun q hq => by rw [hρ']; exact up_other _ _ (fun e => by subst e; simp [hy] at hq)
  have hsome : ∀ q, (m q).isSome = true → (m' q).isSome = true := fun q hq => by rw [hm']; exact isSome_up q (isSome_up q hq)
  have e1 : ρ' y = ρ x := by rw [hρ', up_same]
  have hmy : (m' y).isSome = true := by rw [hm', up_other _ _ (Ne.symm hzy), up_same]; rfl
  have cs : ∀ q b, m' q = some b → (q = z ∧ b = .var ty cells') ∨ (q = y ∧ b = .ro 0 0 fun _ => []) ∨ (q ≠ z ∧ q ≠ y ∧ m q = some b) := by
    intro q b hq
    rw [hm'] at hq
    by_cases h1 : q = z
    · subst h1; rw [up_same] at hq; injection hq with hq; exact .inl ⟨rfl, hq.symm⟩
    · rw [up_other _ _ h1] at hq
      by_cases h2 : q = y
      · subst h2; rw [up_same] at hq; injection hq with hq; exact .inr (.inl ⟨rfl, hq.symm⟩)
      · rw [up_other _ _ h2] at hq; exact .inr (.inr ⟨h1, h2, hq⟩)
  have hkz := hs.mem.ok z _ hz
  have hzs : (m z).isSome = true := by rw [hz]; rfl
  obtain ⟨a1, a2⟩ := aliasL_conc (ρ := ρ) (ρ' := ρ') (m := m) (m' := m') e1 hsome hmy hρ hc hkz.2.2.2
  have hmem : SatM E ρ' m' w := by
    refine ⟨hs.mem.fr, fun p hp => ?_, fun q b hq => ?_, fun q r b d hq hr hb hd hne => ?_⟩
    · have := hs.mem.bo p hp
      rw [hρ', up_other _ _ (by omega)]; exact this
    · rcases cs q b hq with ⟨rfl, rfl⟩ | ⟨rfl, rfl⟩ | ⟨h1, h2, h3⟩
      · exact ⟨by rw [hρ _ hzs]; exact hkz.1, by rw [hρ _ hzs]; exact hkz.2.1, by rw [hρ _ hzs, a1]; exact hkz.2.2.1, a2⟩
      · intro h0; omega
      · have hk := hs.mem.ok q b h3
        have ey : ρ' q = ρ q := hρ q (by rw [h3]; rfl)
        cases b with
        | var ty cells =>
          have hcm : cells.map (AC.conc ρ') = cells.map (AC.conc ρ) := List.map_congr_left fun c hm => AC.conc_mono hρ (hk.2.2.2 c hm)
          exact ⟨by rw [ey]; exact hk.1, by rw [ey]; exact hk.2.1, by rw [ey, hcm]; exact hk.2.2.1, fun c hc => AC.ok_mono hsome hρ (hk.2.2.2 c hc)⟩
        | arr ty sz n el room =>
          obtain ⟨k1, k2, a, ha, hs, he⟩ := hk
          exact ⟨by rw [ey]; exact k1, by rw [ey]; exact k2, a, by rw [ey]; exact ha, hs, he⟩
        | obj Q =>
          obtain ⟨k1, k2, a, ha, hs⟩ := hk
          exact ⟨by rw [ey]; exact k1, by rw [ey]; exact k2, a, by rw [ey]; exact ha, hs⟩
        | ro sz n el =>
          intro hn
          rw [ey]
          exact hk hn
        | say S R => exact hk
    · have live : ∀ q b, m' q = some b → b.live → ∃ b0, m q = some b0 ∧ b0.live ∧ (b.own → b0.own) ∧ ρ' q = ρ q ∧ ∀ p k, b.hits p k → b0.hits p k := by
        intro q b hq hl
        rcases cs q b hq with ⟨rfl, rfl⟩ | ⟨rfl, rfl⟩ | ⟨h1, h2, h3⟩
        · exact ⟨_, hz, trivial, fun _ => trivial, hρ _ hzs, fun _ _ h => h⟩
        · exact absurd hl (Nat.lt_irrefl 0)
        · exact ⟨b, h3, hl, id, hρ q (by rw [h3]; rfl), fun _ _ h => h⟩
      obtain ⟨b0, g1, g2, g3, g4, _⟩ := live q b hq (Blk.own_live hb)
      obtain ⟨d0, g5, g6, _, g7, g8⟩ := live r d hr hd
      rw [g4, g7]
      exact fun hh => hs.mem.ne q r b0 d0 g1 g5 (g3 hb) g6 hne (g8 _ _ hh)
  have := hs.move hmem hsome hρ
  rw [hm'] at this
  exact k ρ' a w this
/-! ### The same, where nothing is known of how long the list is -/
def accB (e : TypeId) (sz n c : Nat) (el : Nat → List Value) : Blk := match n with
  | 0 => .ro sz 0 el
  | n + 1 => .arr e sz (n + 1) el ((c - (n + 1)) * sz)
theorem accB_pos {e : TypeId} {sz n c : Nat} {el : Nat → List Value} (h : 0 < n) : accB e sz n c el = .arr e sz n el ((c - n) * sz) := by
  cases n with
  | zero => omega
  | succ n => rfl
theorem GO.moveAny (hT : Tab.fine P T) {ops : Array Oper} {rest : List Oper} {o : Oper} {y : Operand} {d : Nat} {t0 : Nat → TV} {m : Mem} {a : AV} (hg : o.guard = none) (hop : o.op = .move y ∨ o.op = .assign y) (hd : o.dst = some d) (hdN : Nat.blt d E.N = true) (hy : evT t0 y = .v a)
    (k : GO P E ops K rest ⟨up t0 d (.v a), m⟩) : GO P E ops K (o :: rest) ⟨t0, m⟩ := by
  have hev : evOp T d (evT t0) m o.op = .ok (.v a) m [] := by
    rcases hop with h | h <;> (rw [h]; simp only [evOp, forceTV_eq, hy])
  have hstep : stepE T E.N ops t0 m o = .ok (.v a) m [] := by
    unfold stepE
    have : dstOk E.N o.dst = true := by rw [hd]; exact hdN
    rw [this, hg, hd]
    exact hev
  exact GO.step (st := ⟨t0, m⟩) hT hstep trivial (by rw [hd]; exact k)
theorem G.newNil {c : Code} {t0 : Nat → TV} {m : Mem} (x sz : Nat) (el : Nat → List Value) (hx : m x = none) (k : G P E K c ⟨t0, up m x (some (.ro sz 0 el))⟩) : G P E K c ⟨t0, m⟩ :=
  fun hn ρ a w hs => k hn ρ a w (hs.move (hs.mem.newNil (x := x) (sz := sz) (el := el) hx) (fun y hy => isSome_up y hy) (fun _ _ => rfl))
theorem GO.appendAccB {ops : Array Oper} {rest : List Oper} {o : Oper} {s y : Operand} {t e size bytes d n c : Nat} {z : Value} {t0 : Nat → TV} {m : Mem} {el : Nat → List Value} {q c1 : Nat} {ty1 : TypeId} (vs : List Value) (tl : List (Nat × TV)) (ml : List (Nat × Blk)) (hp : ApT P t e size bytes z) (hg : o.guard = none) (hop : o.op = .call { callee := .builtin .append, args := #[s, y], argTypes := #[t, t] })
    (hd : o.dst = some d) (hdN : Nat.blt d E.N = true) (hdb : Nat.blt d 1000 = true) (hs : evT t0 s = .v (.c (accV d size n c))) (hx : m d = some (accB e size n c el))
    (hy : evT t0 y = .v (.c (.slc q 0 size 1 c1))) (hq : m q = some (.var ty1 (vs.map .k))) (hv : vs.length = size) (h1 : ∀ u ∈ vs, u.oneCell' = true)
    (hle : St.le E (St.of tl ml) ⟨t0, m⟩) (hfr : ∀ z b, (St.of tl ml).m z = some b → m z = some b ∧ z ≠ d) (hlen : ∀ k, k < n → (el k).length = size) (b1 : n + 1 ≤ maxLen) (b2 : (n + 1) * bytes ≤ 140737488355328)
    (k : ∀ c', n + 1 ≤ c' → GO P E ops K rest ⟨up (St.of tl ml).t d (.v (.c (.slc d 0 size (n + 1) c'))), up (St.of tl ml).m d (some (.arr e size (n + 1) (elN el n vs) ((c' - (n + 1)) * size)))⟩) : GO P E ops K (o :: rest) ⟨t0, m⟩ :=
  GO.appendAcc vs tl ml hp hg hop hd hdN hdb hs (fun h0 => by rw [hx, accB_pos h0]) hy hq hv h1 hle hfr hlen b1 b2 k
end
end Go.Sx
/- The symbolic executor, part AE: make of a row, lists that grow from an empty row on. Generic over P. -/
set_option linter.unusedVariables false
set_option linter.unusedSimpArgs false
namespace Go.Sx
open Go.RowKit
section
variable {P : Program} {E : Env} {K : Exit → St → Prop} {T : Tab}
def accVA (A0 : Option Addr) (d sz n c : Nat) : AC := match n with
  | 0 => .k (.slice A0 0 0)
  | n + 1 => .slc d 0 sz (n + 1) c
theorem GO.appendAccA {A0 : Option Addr} {ops : Array Oper} {rest : List Oper} {o : Oper} {s y : Operand} {t e size bytes d n c : Nat} {z : Value} {t0 : Nat → TV} {m : Mem} {el : Nat → List Value} {q c1 : Nat} {ty1 : TypeId} (vs : List Value) (tl : List (Nat × TV)) (ml : List (Nat × Blk)) (hp : ApT P t e size bytes z) (hg : o.guard = none) (hop : o.op = .call { callee := .builtin .append, args := #[s, y], argTypes := #[t, t] })
    (hd : o.dst = some d) (hdN : Nat.blt d E.N = true) (hdb : Nat.blt d 1000 = true) (hs : evT t0 s = .v (.c (accVA A0 d size n c))) (hx : 0 < n → m d = some (.arr e size n el ((c - n) * size)))
    (hy : evT t0 y = .v (.c (.slc q 0 size 1 c1))) (hq : m q = some (.var ty1 (vs.map .k))) (hv : vs.length = size) (h1 : ∀ u ∈ vs, u.oneCell' = true)
    (hle : St.le E (St.of tl ml) ⟨t0, m⟩) (hfr : ∀ z b, (St.of tl ml).m z = some b → m z = some b ∧ z ≠ d) (hlen : ∀ k, k < n → (el k).length = size) (b1 : n + 1 ≤ maxLen) (b2 : (n + 1) * bytes ≤ 140737488355328)
    (k : ∀ c', n + 1 ≤ c' → GO P E ops K rest ⟨up (St.of tl ml).t d (.v (.c (.slc d 0 size (n + 1) c'))), up (St.of tl ml).m d (some (.arr e size (n + 1) (elN el n vs) ((c' - (n + 1)) * size)))⟩) : GO P E ops K (o :: rest) ⟨t0, m⟩ := by
  have hfree : (St.of tl ml).m d = none := by
    cases h : (St.of tl ml).m d with
    | none => rfl
    | some b => exact absurd rfl (hfr d b h).2
  cases n with
  | succ n => exact GO.appendOwn vs tl ml hp hg hop hd hdN hdb hdb hs (hx (Nat.succ_pos n)) (Nat.le_refl _) hy hq hv h1 hle hfr hfree hlen b1 b2 k
  | zero =>
    intro ρ a w hsat
    have hs0 := hle ρ a w hsat
    have es : a.eval s = .slice A0 0 0 := by have := hsat.eval s; simp only [St.ev, hs] at this; exact this.2
    have ex := hsat.eval y
    simp only [St.ev, hy] at ex
    obtain ⟨B, cc, e3, hr⟩ := (RowOf.var (P := P) (E := E) (c := c1) (n := 1) (sz := size) hq (by omega)) ρ w hsat.mem ex.1
    have hone : ∀ i, i < 1 → elN el 0 vs i = vs := fun i hi => by
      have : i = 0 := by omega
      subst this
      exact elN_eq
    have hr' : RdRow w B 1 size (elN el 0 vs) := hr.congr fun i hi => by
      rw [hone i hi]
      have : i = 0 := by omega
      subst this
      simp [← hv]
    have ex : a.eval y = .slice B 1 cc := ex.2.trans e3
    unfold wpL
    rw [if_pos (by simp [Region.wanted, hg])]
    refine .inl ?_
    unfold Oper.wp
    rcases append_new (ty := o.type) hp (A := A0) (c := cc) hr' (fun i hi u hu => h1 u (by rw [hone i hi] at hu; exact hu)) (by omega) (by omega) with ⟨h0, _⟩ | ⟨h0, v', w', hrun, r1, r2⟩
    · cases h0
    · have : (execOp a.eval o).run P w = .ok (.value v') w' := by
        simp [execOp, hop, resolve, invoke, builtin, es, ex, hrun, Result.andThen]
      rw [this]
      obtain ⟨ρ', c', h2, h3, h4, h5⟩ := hs0.mem.newOwn hfree (by simpa [Nat.blt_eq] using hdb) (fun i hi => by rw [hone i hi]; exact hv) h0 r1 r2
      refine k c' h2 ρ' _ w' ?_
      rw [hd]
      refine (hs0.move h4 (fun y hy => isSome_up y hy) h3).put (by simpa [Nat.blt_eq] using hdN) ⟨?_, h5⟩
      show (up (St.of tl ml).m d _ d).isSome = true
      rw [up_same]; rfl
theorem GO.appendAccAB {A0 : Option Addr} {ops : Array Oper} {rest : List Oper} {o : Oper} {s y : Operand} {t e size bytes d n c : Nat} {z : Value} {t0 : Nat → TV} {m : Mem} {el : Nat → List Value} {q c1 : Nat} {ty1 : TypeId} (vs : List Value) (tl : List (Nat × TV)) (ml : List (Nat × Blk)) (hp : ApT P t e size bytes z) (hg : o.guard = none) (hop : o.op = .call { callee := .builtin .append, args := #[s, y], argTypes := #[t, t] })
    (hd : o.dst = some d) (hdN : Nat.blt d E.N = true) (hdb : Nat.blt d 1000 = true) (hs : evT t0 s = .v (.c (accVA A0 d size n c))) (hx : m d = some (accB e size n c el))
    (hy : evT t0 y = .v (.c (.slc q 0 size 1 c1))) (hq : m q = some (.var ty1 (vs.map .k))) (hv : vs.length = size) (h1 : ∀ u ∈ vs, u.oneCell' = true)
    (hle : St.le E (St.of tl ml) ⟨t0, m⟩) (hfr : ∀ z b, (St.of tl ml).m z = some b → m z = some b ∧ z ≠ d) (hlen : ∀ k, k < n → (el k).length = size) (b1 : n + 1 ≤ maxLen) (b2 : (n + 1) * bytes ≤ 140737488355328)
    (k : ∀ c', n + 1 ≤ c' → GO P E ops K rest ⟨up (St.of tl ml).t d (.v (.c (.slc d 0 size (n + 1) c'))), up (St.of tl ml).m d (some (.arr e size (n + 1) (elN el n vs) ((c' - (n + 1)) * size)))⟩) : GO P E ops K (o :: rest) ⟨t0, m⟩ :=
  GO.appendAccA vs tl ml hp hg hop hd hdN hdb hs (fun h0 => by rw [hx, accB_pos h0]) hy hq hv h1 hle hfr hlen b1 b2 k
/-- make of n elements of one cell each. -/
theorem GO.make1 {ops : Array Oper} {rest : List Oper} {o : Oper} {l c : Operand} {t e bytes d : Nat} {z : Value} {t0 : Nat → TV} {m : Mem} {kl kc : IntKind} (n : Nat) (hp : ApT P t e 1 bytes z) (hz1 : z.cells = #[z]) (hg : o.guard = none) (hop : o.op = .makeSlice t l c)
    (hd : o.dst = some d) (hdN : Nat.blt d E.N = true) (hdb : Nat.blt d 1000 = true) (hfree : m d = none) (hl : evT t0 l = .v (.c (.k (.int kl (n : Int))))) (hc : evT t0 c = .v (.c (.k (.int kc (n : Int))))) (b1 : n ≤ maxLen) (b2 : bytes * n ≤ 281474976710656)
    (k0 : n = 0 → ∀ A, (∀ a : Addr, A = some a → a.spot = none) → GO P E ops K rest ⟨up t0 d (.v (.c (.k (.slice A 0 0)))), m⟩)
    (k1 : 0 < n → ∀ c, n ≤ c → GO P E ops K rest ⟨up t0 d (.v (.c (.slc d 0 1 n c))), up m d (some (.arr e 1 n (fun _ => [z]) ((c - n) * 1)))⟩) : GO P E ops K (o :: rest) ⟨t0, m⟩ := by
  intro ρ a w hsat
  obtain ⟨i, hi, hz, hs, hb⟩ := hp.info
  have el : a.eval l = .int kl (n : Int) := by have := hsat.eval l; simp only [St.ev, hl] at this; exact this.2
  have ec : a.eval c = .int kc (n : Int) := by have := hsat.eval c; simp only [St.ev, hc] at this; exact this.2
  obtain ⟨w', hrun, r1, r2⟩ := run_make_full (P := P) w w.heap.size t e i z 1 hp.ht hi hz hs kl kc n (by rw [hb]; exact b2) b1 (Nat.le_refl _)
  have hcells : (madeCells z.cells (n * 1)).toList = flatE (fun _ => [z]) 0 n := by
    rw [hz1, toList_madeCells_one, Nat.mul_one]
    have : ∀ (k i : Nat), flatE (fun _ => [z]) i k = List.replicate k z := by
      intro k
      induction k with
      | zero => intro i; rfl
      | succ k ih => intro i; rw [flatE, ih]; rfl
    exact (this n 0).symm
  rw [hcells] at r1
  unfold wpL
  rw [if_pos (by simp [Region.wanted, hg])]
  refine .inl ?_
  unfold Oper.wp
  have : (execOp a.eval o).run P w = .ok (.value (.slice (some ⟨w.heap.size, 0, none⟩) n n)) w' := by
    simp [execOp, hop, el, ec, hrun, Result.andThen]
  rw [this]
  by_cases h0 : n = 0
  · refine k0 h0 (some ⟨w.heap.size, 0, none⟩) (fun a ha => by injection ha with ha; subst ha; rfl) ρ _ w' ?_
    rw [hd]
    have hbl : Below w.heap.size w w' := ⟨r2.os, r2.tape, r2.output, r2.size, fun k hk => r2.block k hk (by simp)⟩
    refine (hsat.below hbl).put (by simpa [Nat.blt_eq] using hdN) ⟨trivial, ?_⟩
    subst h0
    rfl
  · obtain ⟨ρ', c', h2, h3, h4, h5⟩ := hsat.mem.newOwn hfree (by simpa [Nat.blt_eq] using hdb) (el := fun _ => [z]) (fun i hi => rfl) (by omega) r1 r2
    refine k1 (by omega) c' h2 ρ' _ w' ?_
    rw [hd]
    refine (hsat.move h4 (fun y hy => isSome_up y hy) h3).put (by simpa [Nat.blt_eq] using hdN) ⟨?_, h5⟩
    show (up m d _ d).isSome = true
    rw [up_same]; rfl
end
end Go.Sx
/- The symbolic executor, part AF: maps from numbers to true (sets of numbers): made, asked, grown. Generic over P. -/
set_option linter.unusedVariables false
set_option linter.unusedSimpArgs false
namespace Go.Sx
open Go.RowKit
structure MpT (P : Program) (t kt et : TypeId) : Prop where
  hm : P.underlying t = some (.map kt et)
  hk : P.underlying kt = some (.int .i64)
  he : ∀ w : World, (zeroValue et).run P w = .ok (.bool false) w
/-- A map that holds true under just the numbers of a set. -/
def ISet (S : Int → Bool) (o : Obj) : Prop := ∃ es clock, o = .map es clock ∧ (∀ e ∈ es.toList, ∃ n, e.key = .int .i64 n ∧ e.val = .bool true ∧ S n = true) ∧ ∀ n, S n = true → ∃ e ∈ es.toList, e.key = .int .i64 n
theorem findNow_set (n : Int) : ∀ (l : List MapEntry) (i : Nat), (∀ e ∈ l, ∃ m, e.key = .int .i64 m ∧ e.val = .bool true) →
    (Instr.findNow (.int .i64) (.int .i64 n) l i = some none ∧ ∀ e ∈ l, e.key ≠ .int .i64 n) ∨ ∃ j, Instr.findNow (.int .i64) (.int .i64 n) l i = some (some (j, .bool true)) ∧ ∃ e ∈ l, e.key = .int .i64 n := by
  intro l
  induction l with
  | nil => intro i _; exact .inl ⟨rfl, fun e h => by cases h⟩
  | cons a r ih =>
    intro i h
    obtain ⟨m, h1, h2⟩ := h a (.head _)
    by_cases e : n = m
    · subst e
      refine .inr ⟨i, ?_, a, .head _, h1⟩
      simp [Instr.findNow, Instr.sameNow, h1, h2]
    · have hn : Instr.findNow (.int .i64) (.int .i64 n) (a :: r) i = Instr.findNow (.int .i64) (.int .i64 n) r (i + 1) := by
        have h3 : Instr.sameNow (.int .i64) (.int .i64 n) a.key = some false := by rw [h1]; simp [Instr.sameNow, e]
        rw [Instr.findNow, h3]
      rw [hn]
      rcases ih (i + 1) fun x hx => h x (.tail _ hx) with ⟨k1, k2⟩ | ⟨j, k1, x, hx, k2⟩
      · refine .inl ⟨k1, fun x hx => ?_⟩
        cases hx with
        | head => rw [h1]; intro hc; injection hc with _ hc; exact e hc.symm
        | tail _ hx => exact k2 x hx
      · exact .inr ⟨j, k1, x, .tail _ hx, k2⟩
section
variable {P : Program} {t kt et : TypeId} {w : World} {r : Nat} {S : Int → Bool} {o : Obj}
theorem run_lookup_set (hp : MpT P t kt et) (hb : w.heap[r]? = some o) (ho : ISet S o) (n : Int) : (Instr.lookup t (.map (some r)) (.int .i64 n) false).run P w = .ok (.bool (S n)) w := by
  obtain ⟨es, clock, rfl, h1, h2⟩ := ho
  have hc : ∀ em, (Instr.checkKey em 10000 kt (.int .i64 n)).run P w = .ok () w := fun em => MapKept.run_checkKey hp.hk (by trivial) em 9999
  rcases findNow_set n es.toList 0 (fun e he => by obtain ⟨m, a, b, _⟩ := h1 e he; exact ⟨m, a, b⟩) with ⟨k1, k2⟩ | ⟨j, k1, e, he, k2⟩
  · have hS : S n = false := by
      cases hs : S n with
      | false => rfl
      | true =>
        obtain ⟨e, he, hk⟩ := h2 n hs
        exact absurd hk (k2 e he)
    rw [hS]
    simp [Instr.lookup, run_underlying hp.hm, MapKept.run_getObj_map hb, hc, MapKept.run_findKey hp.hk k1, hp.he, Result.andThen]
  · have hS : S n = true := by
      obtain ⟨m, a, _, b⟩ := h1 e he
      rw [k2] at a
      injection a with _ a
      rw [a]; exact b
    rw [hS]
    simp [Instr.lookup, run_underlying hp.hm, MapKept.run_getObj_map hb, hc, MapKept.run_findKey hp.hk k1, Result.andThen]
theorem run_update_set (hp : MpT P t kt et) (hb : w.heap[r]? = some o) (ho : ISet S o) {n : Int} (hn : S n = false) {S2 : Int → Bool} (hS : ∀ q, S2 q = (S q || (q == n))) :
    ∃ o', (Instr.mapUpdate t (.map (some r)) (.int .i64 n) (.bool true)).run P w = .ok () { w with heap := w.heap.setIfInBounds r o' } ∧ ISet S2 o' := by
  obtain ⟨es, clock, rfl, h1, h2⟩ := ho
  have hc : ∀ em, (Instr.checkKey em 10000 kt (.int .i64 n)).run P w = .ok () w := fun em => MapKept.run_checkKey hp.hk (by trivial) em 9999
  rcases findNow_set n es.toList 0 (fun e he => by obtain ⟨m, a, b, _⟩ := h1 e he; exact ⟨m, a, b⟩) with ⟨k1, k2⟩ | ⟨j, k1, e, he, k2⟩
  · refine ⟨.map (es.push ⟨.int .i64 n, .bool true, clock⟩) (clock + 1), ?_, _, _, rfl, fun e he => ?_, fun q hq => ?_⟩
    · simp [Instr.mapUpdate, run_underlying hp.hm, MapKept.run_getObj_map hb, hc, MapKept.run_findKey hp.hk k1, MapKept.run_setObj_map _ hb, Result.andThen]
    · simp only [Array.toList_push, List.mem_append, List.mem_singleton] at he
      rcases he with he | rfl
      · obtain ⟨m, a, b, c⟩ := h1 e he
        exact ⟨m, a, b, by rw [hS, c]; rfl⟩
      · exact ⟨n, rfl, rfl, by rw [hS]; simp⟩
    · rw [hS, Bool.or_eq_true] at hq
      simp only [Array.toList_push, List.mem_append, List.mem_singleton]
      rcases hq with hq | hq
      · obtain ⟨e, he, hk⟩ := h2 q hq
        exact ⟨e, .inl he, hk⟩
      · simp only [beq_iff_eq] at hq
        exact ⟨_, .inr rfl, by rw [hq]⟩
  · obtain ⟨m, a, _, b⟩ := h1 e he
    rw [k2] at a
    injection a with _ a
    rw [← a, hn] at b
    cases b
end
section
variable {P : Program} {E : Env} {K : Exit → St → Prop} {T : Tab}
theorem Sat.mapAt {ρ : Val} {m : Mem} {w : World} (h : SatM E ρ m w) {x : Nat} {Q : Obj → Prop} (hx : m x = some (.obj Q)) : ∃ o, w.heap[(ρ x).1]? = some o ∧ Q o := (h.ok x _ hx).2.2
theorem GO.makeMap {ops : Array Oper} {rest : List Oper} {o : Oper} {t d : Nat} {t0 : Nat → TV} {m : Mem} (S : Int → Bool) (hS : ∀ n, S n = false) (hg : o.guard = none) (hop : o.op = .makeMap t none) (hd : o.dst = some d) (hdN : Nat.blt d E.N = true) (hx : m d = none) (hxb : Nat.blt d 1000 = true)
    (k : GO P E ops K rest ⟨up t0 d (.v (.c (.mp d))), up m d (some (.obj (ISet S)))⟩) : GO P E ops K (o :: rest) ⟨t0, m⟩ := by
  intro ρ a w hs
  have hrun : (execOp a.eval o).run P w = .ok (.value (.map (some w.heap.size))) (w.alloc (.map #[] 0)) := by
    simp [execOp, hop, Instr.makeMap]
  unfold wpL
  rw [if_pos (by simp [Region.wanted, hg])]
  refine .inl ?_
  have hxb : d < 1000 := by simpa [Nat.blt_eq] using hxb
  refine Snd.go hs (fun n hn => by rw [hd] at hn; injection hn with hn; subst hn; simpa [Nat.blt_eq] using hdN) (tv := .v (.c (.mp d)))
    (Snd.new hx (hs.mem.alloc hx hxb (.obj (ISet S)) (.map #[] 0) trivial fun ρ' h1 h2 => ⟨by rw [h2], .inl (by rw [h2]; exact hs.mem.fr.size), .map #[] 0, by rw [h2]; exact heap_alloc_new _ _, #[], 0, rfl, fun e he => by simp at he, fun n hn => by rw [hS] at hn; cases hn⟩) hrun ⟨by simp [AV.ok, AC.ok, up_same], by simp [AV.conc, AC.conc, up_same]⟩) fun ρ' a' w' hs' => k ρ' a' w' ?_
  rw [hd] at hs'
  exact hs'
theorem GO.lookupG {ops : Array Oper} {rest : List Oper} {o : Oper} {t kt et j : Nat} {y i : Operand} {want cb : Bool} {t0 : Nat → TV} {m : Mem} (x : Nat) (S : Int → Bool) (n : Int) (hp : MpT P t kt et) (hg : o.guard = some (j, want)) (hb : guardB ops t0 j want = some cb) (hop : o.op = .lookup t y i false)
    (hob : AllP (stripObs t0 j want cb (slotsOf o.op.operands.toList))) (hy : evG t0 j want (slotsOf o.op.operands.toList) y = .v (.c (.mp x))) (hi : evG t0 j want (slotsOf o.op.operands.toList) i = .v (.c (.k (.int .i64 n)))) (hx : m x = some (.obj (ISet S))) (hd : dstOk E.N o.dst = true)
    (k : GO P E ops K rest ⟨Sx.putT t0 o.dst (.grd j want cb (.c (.k (.bool (S n))))), m⟩) : GO P E ops K (o :: rest) ⟨t0, m⟩ := by
  refine GO.steps (tv := .grd j want cb (.c (.k (.bool (S n))))) (ms := []) ?_ k
  intro st hle ρ a w hs Kc Q hk
  have hs' := hs.weakT hle.t
  have hw := wanted_cond (ops := ops) hs' hg hb
  rw [hw]
  cases hcb : cb with
  | true =>
    subst hcb
    rw [if_pos rfl]
    have hev := fun y => evG_rep hs' hob rfl y
    have e1 : a.eval y = .map (some (ρ x).1) := by have := hev y; rw [hy] at this; exact this.2
    have e2 : a.eval i = .int .i64 n := by have := hev i; rw [hi] at this; exact this.2
    have hx2 : st.m x = some (.obj (ISet S)) := by
      rcases hle.m x with h | h
      · rw [show (St.mk t0 m).m x = m x from rfl, hx] at h; cases h
      · exact h.trans hx
    obtain ⟨ob, h1, h2⟩ := Sat.mapAt hs.mem hx2
    have hrun : (execOp a.eval o).run P w = .ok (.value (.bool (S n))) w := by
      simp [execOp, hop, e1, e2, run_lookup_set hp h1 h2 n, Result.andThen]
    refine .inl ?_
    exact Snd.go hs (dstOk_lt hd) (tv := .grd j want true (.c (.k (.bool (S n))))) (Snd.here hs.mem (v := .bool (S n)) hrun ⟨fun _ => ⟨trivial, rfl⟩, fun hf => by cases hf⟩) fun ρ' a' w' hs'' => hk ρ' a' w' hs''
  | false =>
    subst hcb
    rw [if_neg (by simp)]
    exact hk ρ _ w (hs.putT (dstOk_lt hd) ⟨fun hf => (by cases hf), fun _ => rfl⟩)
theorem Steps.mapNew {ops : Array Oper} {o : Oper} {t kt et : Nat} {y i : Operand} {C : St} (x : Nat) (S S2 : Int → Bool) (n : Int) (hp : MpT P t kt et) (hg : o.guard = none) (hop : o.op = .mapUpdate t y i (.const (.bool true))) (hd : o.dst = none)
    (hy : evT C.t y = .v (.c (.mp x))) (hi : evT C.t i = .v (.c (.k (.int .i64 n)))) (hx : C.m x = some (.obj (ISet S))) (hn : S n = false) (hS : ∀ q, S2 q = (S q || (q == n))) : Steps P E ops o C .unk [(x, .obj (ISet S2))] := by
  intro st hle ρ a w hs Kc Q hk
  have hs' := hs.weakT hle.t
  rw [if_pos (by simp [Region.wanted, hg])]
  have e1 : a.eval y = .map (some (ρ x).1) := by have := hs'.eval y; rw [show (St.mk C.t st.m).ev y = .v (.c (.mp x)) from hy] at this; exact this.2
  have e2 : a.eval i = .int .i64 n := by have := hs'.eval i; rw [show (St.mk C.t st.m).ev i = .v (.c (.k (.int .i64 n))) from hi] at this; exact this.2
  have hx2 : st.m x = some (.obj (ISet S)) := by
    rcases hle.m x with h | h
    · rw [hx] at h; cases h
    · exact h.trans hx
  obtain ⟨ob, h1, h2⟩ := Sat.mapAt hs.mem hx2
  obtain ⟨o', h3, h4⟩ := run_update_set hp h1 h2 hn hS
  have hrun : (execOp a.eval o).run P w = .ok .skip { w with heap := w.heap.setIfInBounds (ρ x).1 o' } := by
    have e3 : a.eval (.const (.bool true)) = .bool true := rfl
    simp [execOp, hop, e1, e2, e3, h3, Result.andThen]
  have hk0 := hs.mem.ok x _ hx2
  have hlt := lt_of_heap h1
  have hmem : SatM E ρ (up st.m x (some (.obj (ISet S2)))) { w with heap := w.heap.setIfInBounds (ρ x).1 o' } := by
    refine hs.mem.put hx2 trivial trivial ⟨hs.mem.fr.os, hs.mem.fr.tape, hs.mem.fr.output, by simpa using hs.mem.fr.size, fun g hg1 hg2 => ?_⟩ (by simp) (fun g hg => ?_) ⟨hk0.1, hk0.2.1, o', ?_, h4⟩
    · have hne : (ρ x).1 ≠ g := by
        rcases mem_bor hk0.2.1 with h | h
        · omega
        · exact fun e => hg2 (e ▸ h)
      simp only [Array.getElem?_setIfInBounds_ne hne]
      exact hs.mem.fr.block g hg1 hg2
    · simp only [Array.getElem?_setIfInBounds_ne (Ne.symm hg)]
    · simp [Array.getElem?_setIfInBounds, hlt]
  have hsome : ∀ z, (st.m z).isSome = true → (up st.m x (some (.obj (ISet S2))) z).isSome = true := fun z hz => isSome_up z hz
  refine .inl ?_
  unfold Oper.wp
  rw [hrun]
  refine hk ρ _ _ ?_
  rw [upm_one]
  exact (hs.move hmem hsome fun _ _ => rfl).putT (fun q hq => by rw [hd] at hq; cases hq) (tv := .unk) trivial
theorem GD.mapNew {l : List Oper} {cls : List Nat} {X : List (Nat × Nat)} {base : St} {recs : List DR} {rest : List Oper} {tt : Nat → TV} {m : Mem} {o : Oper} {t kt et : Nat} {y ix : Operand} (x : Nat) (S S2 : Int → Bool) (n : Int) (i : Nat) (hi : recs.length = i) (hp : MpT P t kt et) (hg : o.guard = none) (hop : o.op = .mapUpdate t y ix (.const (.bool true))) (hd : o.dst = none)
    (hy : evT (canF l cls X base i recs).t y = .v (.c (.mp x))) (hix : evT (canF l cls X base i recs).t ix = .v (.c (.k (.int .i64 n)))) (hx : (canF l cls X base i recs).m x = some (.obj (ISet S))) (hn : S n = false) (hS : ∀ q, S2 q = (S q || (q == n))) (hw : Wok X i o [(x, .obj (ISet S2))] = true)
    (k : GD P E K l cls X base (⟨o, .unk, [(x, .obj (ISet S2))]⟩ :: recs) rest (Sx.putT tt o.dst .unk) (upm m [(x, .obj (ISet S2))])) : GD P E K l cls X base recs (o :: rest) tt m := by
  rw [canF_eq hi] at hy hix hx
  exact GD.step (Steps.mapNew x S S2 n hp hg hop hd hy hix hx hn hS) (by rw [hi]; exact hw) k
end
end Go.Sx
/- The symbolic executor, part AG: rows of ours that calls make and turn (slices.Clone, slices.Delete), a row's own tail moved down, its rest cleared. Generic over P. -/
set_option linter.unusedVariables false
set_option linter.unusedSimpArgs false
namespace Go.Sx
open Go.RowKit
/-- A call answers with a row of its own. -/
def OwnNew (w w' : World) (e : Ending) (ty : TypeId) (n sz : Nat) (el : Nat → List Value) : Prop := ∃ b c, e = .returned (.slice (some ⟨b, 0, none⟩) n c) ∧ n ≤ c ∧ w.heap.size ≤ b ∧ OwnAt w' b ty n sz el 0
def rowMo (m : Mem) (x : Nat) (ty : TypeId) (n sz : Nat) (el : Nat → List Value) : Mem := up (up m x (some (.arr ty sz n el 0))) (x + 50) (some (.ro 0 0 fun _ => []))
section
variable {P : Program} {E : Env} {K : Exit → St → Prop} {T : Tab}
theorem SatM.addOwnRow {ρ : Val} {m : Mem} {w w' : World} (h : SatM E ρ m w) (hbl : Below w.heap.size w w') {x n sz b c : Nat} {ty : TypeId} {el : Nat → List Value} (hx : m x = none) (hx2 : m (x + 50) = none) (hxb : Nat.blt (x + 50) 1000 = true) (hge : w.heap.size ≤ b) (ho : OwnAt w' b ty n sz el 0) (hc : n ≤ c) :
    ∃ ρ' : Val, (∀ y, (m y).isSome = true → ρ' y = ρ y) ∧ SatM E ρ' (rowMo m x ty n sz el) w' ∧ AC.ok ρ' (rowMo m x ty n sz el) (.row x n E.w0.heap.size) ∧ AC.conc ρ' (.row x n E.w0.heap.size) = .slice (some ⟨b, 0, none⟩) n c := by
  have hxb : x + 50 < 1000 := by simpa [Nat.blt_eq] using hxb
  obtain ⟨ρ', hρ'⟩ : ∃ ρ' : Val, ρ' = up (up ρ x (b, 0)) (x + 50) (c, 1) := ⟨_, rfl⟩
  have e1 : ρ' x = (b, 0) := by rw [hρ', up_other _ _ (by omega), up_same]
  have e2 : ρ' (x + 50) = (c, 1) := by rw [hρ', up_same]
  have e3 : ∀ y, y ≠ x → y ≠ x + 50 → ρ' y = ρ y := fun y h1 h2 => by rw [hρ', up_other _ _ h2, up_other _ _ h1]
  have hρ : ∀ y, (m y).isSome = true → ρ' y = ρ y := fun y hy => e3 y (fun e => by subst e; simp [hx] at hy) (fun e => by subst e; simp [hx2] at hy)
  have hm : ∀ y d, rowMo m x ty n sz el y = some d → (y = x + 50 ∧ d = .ro 0 0 fun _ => []) ∨ (y = x ∧ d = .arr ty sz n el 0) ∨ (y ≠ x ∧ y ≠ x + 50 ∧ m y = some d) := by
    intro y d hy
    unfold rowMo at hy
    by_cases h1 : y = x + 50
    · subst h1; rw [up_same] at hy; injection hy with hy; exact .inl ⟨rfl, hy.symm⟩
    · rw [up_other _ _ h1] at hy
      by_cases h2 : y = x
      · subst h2; rw [up_same] at hy; injection hy with hy; exact .inr (.inl ⟨rfl, hy.symm⟩)
      · rw [up_other _ _ h2] at hy; exact .inr (.inr ⟨h2, h1, hy⟩)
  have hsome : ∀ y, (m y).isSome = true → (rowMo m x ty n sz el y).isSome = true := fun y hy => isSome_up y (isSome_up y hy)
  have h' := h.below hbl
  refine ⟨ρ', hρ, ⟨h'.fr, fun r hr => ?_, fun y d hy => ?_, fun y z d f hy hz hd hf hne => ?_⟩, ⟨?_, ?_, fun h0 => ⟨by rw [e2]; exact Nat.one_ne_zero, by rw [e1]; exact Nat.le_trans h.fr.size hge⟩, by rw [e2]; exact hc⟩, ?_⟩
  · have := h.bo r hr
    rw [e3 _ (by omega) (by omega)]; exact this
  · rcases hm y d hy with ⟨rfl, rfl⟩ | ⟨rfl, rfl⟩ | ⟨h1, h2, h3⟩
    · intro h0; omega
    · exact ⟨by rw [e1], .inl (by rw [e1]; exact Nat.le_trans h.fr.size hge), by rw [e1]; exact ho⟩
    · have hk := h'.ok y d h3
      have ey : ρ' y = ρ y := e3 y h1 h2
      cases d with
      | var ty cells =>
        have hcm : cells.map (AC.conc ρ') = cells.map (AC.conc ρ) := List.map_congr_left fun c hm => AC.conc_mono hρ (hk.2.2.2 c hm)
        exact ⟨by rw [ey]; exact hk.1, by rw [ey]; exact hk.2.1, by rw [ey, hcm]; exact hk.2.2.1, fun c hc => AC.ok_mono hsome hρ (hk.2.2.2 c hc)⟩
      | arr ty sz n el room =>
        obtain ⟨k1, k2, a, ha, hs, he⟩ := hk
        exact ⟨by rw [ey]; exact k1, by rw [ey]; exact k2, a, by rw [ey]; exact ha, hs, he⟩
      | obj Q =>
        obtain ⟨k1, k2, a, ha, hs⟩ := hk
        exact ⟨by rw [ey]; exact k1, by rw [ey]; exact k2, a, by rw [ey]; exact ha, hs⟩
      | ro sz n el =>
        intro hn
        rw [ey]
        exact hk hn
      | say S R => exact hk
  · rcases hm y d hy with ⟨rfl, rfl⟩ | ⟨rfl, rfl⟩ | ⟨h1, h2, h3⟩
    · exact hd.elim
    · rcases hm z f hz with ⟨rfl, rfl⟩ | ⟨rfl, rfl⟩ | ⟨k1, k2, k3⟩
      · exact absurd hf (Nat.lt_irrefl 0)
      · exact absurd rfl hne
      · rw [e1, e3 z k1 k2]
        exact fun hh => by have := h.lt' k3 hf hh; simp only at this; omega
    · rcases hm z f hz with ⟨rfl, rfl⟩ | ⟨rfl, rfl⟩ | ⟨k1, k2, k3⟩
      · exact absurd hf (Nat.lt_irrefl 0)
      · have := h.lt h3 hd
        rw [e1, e3 y h1 h2]
        show ¬ _ = b
        omega
      · rw [e3 y h1 h2, e3 z k1 k2]
        exact h.ne y z d f h3 k3 hd hf hne
  · unfold rowMo
    rw [up_other _ _ (by omega), up_same]; rfl
  · unfold rowMo
    rw [up_same]; rfl
  · simp [AC.conc, rowAd, e1, e2]
/-- A part of a row of ours that a call has made can be read. -/
theorem SatM.rowA {ρ : Val} {m : Mem} {w : World} (h : SatM E ρ m w) {x n sz n2 g room : Nat} {ty : TypeId} {el : Nat → List Value} (hx : m x = some (.arr ty sz n2 el room)) (ho : AC.ok ρ m (.row x n g)) (hn : n ≤ n2) : RdRow w (rowAd ρ x) n sz el := by
  intro h0
  obtain ⟨h1, _, a, ha, _, he⟩ := h.ok x _ hx
  exact ⟨(ρ x).1, (ρ x).2, if_neg (ho.2.2.1 h0).1, lt_of_heap ha, fun i hi => ⟨(he i (by omega)).1, fun j hj => by rw [h1, Nat.zero_add, cell_of_heap ha]; exact (he i (by omega)).2 j hj⟩⟩
theorem SatM.ownA {ρ : Val} {m : Mem} {w : World} (h : SatM E ρ m w) {x n sz room : Nat} {ty : TypeId} {el : Nat → List Value} (hx : m x = some (.arr ty sz n el room)) : OwnAt w (ρ x).1 ty n sz el 0 := by
  obtain ⟨_, _, a, ha, hs, he⟩ := h.ok x _ hx
  exact ⟨a, ha, by omega, he⟩
theorem SatM.rowAd {ρ : Val} {m : Mem} {w : World} (h : SatM E ρ m w) {x n sz n2 g room : Nat} {ty : TypeId} {el : Nat → List Value} (hx : m x = some (.arr ty sz n2 el room)) (ho : AC.ok ρ m (.row x n g)) (h0 : 0 < n) : rowAd ρ x = some ⟨(ρ x).1, 0, none⟩ := by
  have h1 := (h.ok x _ hx).1
  unfold Sx.rowAd
  rw [if_neg (ho.2.2.1 h0).1, h1]
def msO (x : Nat) (ty : TypeId) (n sz : Nat) (el : Nat → List Value) : List (Nat × Blk) := [(x + 50, .ro 0 0 fun _ => []), (x, .arr ty sz n el 0)]
theorem upm_msO (m : Mem) (x : Nat) (ty : TypeId) (n sz : Nat) (el : Nat → List Value) : upm m (msO x ty n sz el) = rowMo m x ty n sz el := by
  funext y
  simp only [upm, msO, rowMo, up, mget]
  cases Nat.beq y (x + 50) with
  | true => rfl
  | false => cases Nat.beq y x <;> rfl
theorem Steps.callOwnR {ops : Array Oper} {o : Oper} {c : Call} {f : FuncId} {avs : List AV} {caps : List Cap} {C : St} (x : Nat) (ty : TypeId) (n sz : Nat) (el : Nat → List Value) (hg : o.guard = none) (hop : o.op = .call c) (he : callE C.t c = .mk f avs caps) (hd : dstOk E.N o.dst = true) (hx : C.m x = none) (hx2 : C.m (x + 50) = none) (hxb : Nat.blt (x + 50) 1000 = true)
    (hcf : ∀ (args : Array Value) (w : World), (callFunc f args).run P w = .ok (.enter f args) w)
    (hc : ∀ m, LeM C.m m → ∀ ρ w, SatM E ρ m w → (∀ v ∈ avs, v.ok ρ m) → Calls P f (avs.map (AV.conc ρ) ++ caps.map (Cap.conc ρ)).toArray w fun e w' => OwnNew w w' e ty n sz el ∧ Below w.heap.size w w') :
    Steps P E ops o C (.v (.c (.row x n E.w0.heap.size))) (msO x ty n sz el) := by
  intro st hle ρ a w hs Kc Q hk
  have hs' := hs.weakT hle.t
  obtain ⟨hr, hok, hok2⟩ := call_run hs' hop he hcf
  rw [if_pos (by simp [Region.wanted, hg])]
  refine .inl ?_
  unfold Oper.wp
  rw [hr]
  refine (hc st.m hle.m ρ w hs.mem hok).mono ?_
  rintro e w' ⟨⟨b, cp, rfl, h1, h2, h3⟩, hb⟩
  have n1 : st.m x = none := by
    rw [hle.n x (by simp only [msO, mget]; cases Nat.beq x (x + 50) <;> simp)]
    exact hx
  have n2 : st.m (x + 50) = none := by
    rw [hle.n (x + 50) (by simp [msO, mget])]
    exact hx2
  obtain ⟨ρ', k1, k2, k3, k4⟩ := hs.mem.addOwnRow hb n1 n2 hxb h2 h3 h1
  refine hk ρ' _ w' ?_
  rw [upm_msO]
  exact (hs.move k2 (fun y hy => isSome_up y (isSome_up y hy)) k1).putT (dstOk_lt hd) ⟨k3, k4.symm⟩
theorem GD.callOwnR {l : List Oper} {cls : List Nat} {X : List (Nat × Nat)} {base : St} {recs : List DR} {o : Oper} {rest : List Oper} {t : Nat → TV} {m : Mem} {c : Call} {f : FuncId} {avs : List AV} {caps : List Cap} (x : Nat) (ty : TypeId) (n sz : Nat) (el : Nat → List Value) (i : Nat) (hi : recs.length = i) (hg : o.guard = none) (hop : o.op = .call c) (he : callE (canF l cls X base i recs).t c = .mk f avs caps) (hd : dstOk E.N o.dst = true)
    (hx : (canF l cls X base i recs).m x = none) (hx2 : (canF l cls X base i recs).m (x + 50) = none) (hxb : Nat.blt (x + 50) 1000 = true) (hw : Wok X i o (msO x ty n sz el) = true)
    (hcf : ∀ (args : Array Value) (w : World), (callFunc f args).run P w = .ok (.enter f args) w)
    (hc : ∀ m, LeM (canF l cls X base i recs).m m → ∀ ρ w, SatM E ρ m w → (∀ v ∈ avs, v.ok ρ m) → Calls P f (avs.map (AV.conc ρ) ++ caps.map (Cap.conc ρ)).toArray w fun e w' => OwnNew w w' e ty n sz el ∧ Below w.heap.size w w')
    (k : GD P E K l cls X base (⟨o, .v (.c (.row x n E.w0.heap.size)), msO x ty n sz el⟩ :: recs) rest (Sx.putT t o.dst (.v (.c (.row x n E.w0.heap.size)))) (upm m (msO x ty n sz el))) : GD P E K l cls X base recs (o :: rest) t m := by
  rw [canF_eq hi] at he hx hx2 hc
  exact GD.step (Steps.callOwnR x ty n sz el hg hop he hd hx hx2 hxb hcf hc) (by rw [hi]; exact hw) k
/-- A call that turns a row of ours and answers with a part of it. -/
theorem Steps.callTurnR {ops : Array Oper} {o : Oper} {c : Call} {f : FuncId} {avs : List AV} {caps : List Cap} {C : St} (x : Nat) (ty : TypeId) (n n' sz g : Nat) (el el' : Nat → List Value) (hg : o.guard = none) (hop : o.op = .call c) (he : callE C.t c = .mk f avs caps) (hd : dstOk E.N o.dst = true) (hx : C.m x = some (.arr ty sz n el 0)) (hin : .c (.row x n g) ∈ avs) (hn : n' ≤ n)
    (hcf : ∀ (args : Array Value) (w : World), (callFunc f args).run P w = .ok (.enter f args) w)
    (hc : ∀ m, LeM C.m m → ∀ ρ w, SatM E ρ m w → (∀ v ∈ avs, v.ok ρ m) → Calls P f (avs.map (AV.conc ρ) ++ caps.map (Cap.conc ρ)).toArray w fun e w' => e = .returned (AC.conc ρ (.row x n' g)) ∧ Fr w [(ρ x).1] w' ∧ OwnAt w' (ρ x).1 ty n' sz el' 0) :
    Steps P E ops o C (.v (.c (.row x n' g))) [(x, .arr ty sz n' el' 0)] := by
  intro st hle ρ a w hs Kc Q hk
  have hs' := hs.weakT hle.t
  obtain ⟨hr, hok, hok2⟩ := call_run hs' hop he hcf
  rw [if_pos (by simp [Region.wanted, hg])]
  refine .inl ?_
  unfold Oper.wp
  rw [hr]
  refine (hc st.m hle.m ρ w hs.mem hok).mono ?_
  rintro e w' ⟨rfl, hf, hn2⟩
  have hl : ownL C.m [⟨x, .arr ty sz n' el' 0⟩] := ⟨⟨_, hx, trivial⟩, trivial⟩
  have hm := hs.mem.turnL (ownL_le hle.m hl) (l := [⟨x, .arr ty sz n' el' 0⟩]) trivial hf ⟨hn2, trivial⟩
  have hr0 : AC.ok ρ st.m (.row x n g) := hok _ hin
  have hr1 : AC.ok ρ (turnedB st.m [⟨x, .arr ty sz n' el' 0⟩]) (.row x n' g) := by
    obtain ⟨q1, q2, q3, q4⟩ := hr0
    exact ⟨isSome_turnedB _ q1, isSome_turnedB _ q2, fun h0 => q3 (by omega), by omega⟩
  refine hk ρ _ w' ?_
  have e : upm st.m [(x, .arr ty sz n' el' 0)] = turnedB st.m [⟨x, .arr ty sz n' el' 0⟩] := upm_msB st.m [⟨x, .arr ty sz n' el' 0⟩]
  rw [e]
  exact (hs.move hm (fun y hy => isSome_turnedB y hy) (fun _ _ => rfl)).putT (dstOk_lt hd) ⟨hr1, rfl⟩
theorem GD.callTurnR {l : List Oper} {cls : List Nat} {X : List (Nat × Nat)} {base : St} {recs : List DR} {o : Oper} {rest : List Oper} {t : Nat → TV} {m : Mem} {c : Call} {f : FuncId} {avs : List AV} {caps : List Cap} (x : Nat) (ty : TypeId) (n n' sz g : Nat) (el el' : Nat → List Value) (i : Nat) (hi : recs.length = i) (hg : o.guard = none) (hop : o.op = .call c) (he : callE (canF l cls X base i recs).t c = .mk f avs caps) (hd : dstOk E.N o.dst = true)
    (hx : (canF l cls X base i recs).m x = some (.arr ty sz n el 0)) (hin : .c (.row x n g) ∈ avs) (hn : n' ≤ n) (hw : Wok X i o [(x, .arr ty sz n' el' 0)] = true)
    (hcf : ∀ (args : Array Value) (w : World), (callFunc f args).run P w = .ok (.enter f args) w)
    (hc : ∀ m, LeM (canF l cls X base i recs).m m → ∀ ρ w, SatM E ρ m w → (∀ v ∈ avs, v.ok ρ m) → Calls P f (avs.map (AV.conc ρ) ++ caps.map (Cap.conc ρ)).toArray w fun e w' => e = .returned (AC.conc ρ (.row x n' g)) ∧ Fr w [(ρ x).1] w' ∧ OwnAt w' (ρ x).1 ty n' sz el' 0)
    (k : GD P E K l cls X base (⟨o, .v (.c (.row x n' g)), [(x, .arr ty sz n' el' 0)]⟩ :: recs) rest (Sx.putT t o.dst (.v (.c (.row x n' g)))) (upm m [(x, .arr ty sz n' el' 0)])) : GD P E K l cls X base recs (o :: rest) t m := by
  rw [canF_eq hi] at he hx hc
  exact GD.step (Steps.callTurnR x ty n n' sz g el el' hg hop he hd hx hin hn hcf hc) (by rw [hi]; exact hw) k
/-! ### A function that turns a row of its caller's and answers with a part of it -/
def endBwS (T : Tab) (fn : Func) (x sz n c : Nat) (O : List Bw) : Exit → St → Prop := fun e st => (e = .ret ∨ e = .normal) ∧ (∃ r, fn.results.toList = [r] ∧ resOne T st r = .v (.c (.slc x 0 sz n c))) ∧ outAll st.m O
theorem enterBwS (hT : Tab.fine P T) {f : FuncId} {fn : Func} {c : Code} {args : Array Value} {w : World} (x g sz n cp : Nat) (C O : List Bw) (hf : P.funcs[f]? = some fn) (hb : fn.body = some c) (N : Nat) (hN : fn.ntmps = N) (avs : List AV) (l : List Inp) (hr : allRd w l) (hlo : lowI l) (hp : pairsBw C) (hfit : allBw (Bw.fit w (bwV l C) l C) C)
    (hargs : args = (avs.map (AV.conc (bwV l C))).toArray) (hl : Nat.ble avs.length N = true) (ha : allAVb l C avs) (hO : ∀ b ∈ O, ∃ c ∈ C, c.x = b.x ∧ c.g = b.g) (hOc : allBw (fun b => cellsB l C b.b) O) (hxg : ∃ c ∈ C, c.x = x ∧ c.g = g)
    (h : G P ⟨w, bwB C, N, none, []⟩ (endBwS T fn x sz n cp O) c ⟨argsT avs, bwM l C⟩) : Calls P f args w fun e w' => e = .returned (.slice (some ⟨g, 0, none⟩) n cp) ∧ Fr w (C.map (·.g)) w' ∧ rawAll (bwV l C) w' O := by
  subst hN
  refine enter rfl (E := ⟨w, bwB C, fn.ntmps, none, []⟩) hf hb (bwV l C) (Sat.initBw hr hlo hp hfit ha hargs (Nat.le_of_ble_eq_true hl)) (h.mono fun e st hk => ⟨hk.1, fun ρ a w' hs => ?_⟩)
  obtain ⟨_, ⟨r, hr1, hr2⟩, h2⟩ := hk
  have hρ : ∀ c ∈ C, ρ c.x = (c.g, 0) := fun c hc => (hs.mem.bo (c.x, c.g) (List.mem_map.2 ⟨c, hc, rfl⟩)).1
  obtain ⟨h3, _⟩ := resOne_run hT hs hr2
  refine ⟨_, results_one hr1 h3, ?_, ?_, rawAll_of fun b hb => ?_⟩
  · obtain ⟨c, hc, rfl, rfl⟩ := hxg
    simp [AV.conc, AC.conc, hρ c hc]
  · have := hs.mem.fr
    simp only [bwB, List.map_map] at this
    exact this
  · obtain ⟨c, hc, e1, e2⟩ := hO b hb
    have ho := outAll_mem h2 b hb
    have hbx : ρ b.x = (b.g, 0) := by rw [← e1, ← e2]; exact hρ c hc
    cases hbb : b.b with
    | var ty cells =>
      rw [hbb] at ho
      have hk := (hs.mem.ok b.x _ ho).2.2.1
      have hcells := allBw_mem hOc b hb
      rw [hbb] at hcells
      rw [hbx, conc_bw (fun c hc => (hρ c hc).trans (bw_at (l := l) hp hc).1.symm) hcells] at hk
      exact hk
    | arr ty sz n el room =>
      rw [hbb] at ho
      obtain ⟨el2, room2, h3, h4⟩ := ho
      have hk := (hs.mem.ok b.x _ h3).2.2
      rw [hbx] at hk
      obtain ⟨a, h5, h6, h7⟩ := hk
      exact ⟨a, h5, by omega, fun i hi => by rw [← h4 i hi]; exact h7 i hi⟩
    | ro sz n el => rw [hbb] at ho; exact ho.elim
    | obj Q => rw [hbb] at ho; exact ho.elim
    | say S R => rw [hbb] at ho; exact ho.elim
theorem endBwS.ret {fn : Func} {x sz n c : Nat} {O : List Bw} {st : St} {r : ResultVar} (h : fn.results.toList = [r]) (h1 : resOne T st r = .v (.c (.slc x 0 sz n c))) (h2 : outAll st.m O) : endBwS T fn x sz n c O .ret st := ⟨.inl rfl, ⟨r, h, h1⟩, h2⟩
/-! ### Slices with three bounds, the empty end of a slice -/
theorem GO.slice3 (hT : Tab.fine P T) {ops : Array Oper} {rest : List Oper} {o : Oper} {t e x sz n c : Nat} {y lo hi mx : Operand} {dd de : TyD} {t0 : Nat → TV} {m : Mem} (l h q : Int) (hg : o.guard = none) (hop : o.op = .slice t y (some lo) (some hi) (some mx)) (hd : dstOk E.N o.dst = true) (ht : T t = some dd) (hk : dd.kind = .slice e) (he : T e = some de)
    (hy : evT t0 y = .v (.c (.slc x 0 sz n c))) (hlo : evT t0 lo = .v (.c (.k (.int .i64 l)))) (hhi : evT t0 hi = .v (.c (.k (.int .i64 h)))) (hmx : evT t0 mx = .v (.c (.k (.int .i64 q)))) (b0 : 0 ≤ l) (b1 : l ≤ h) (b2 : h ≤ q) (b3 : q ≤ (c : Int))
    (k : GO P E ops K rest ⟨Sx.putT t0 o.dst .unk, m⟩) : GO P E ops K (o :: rest) ⟨t0, m⟩ := by
  intro ρ a w hs
  have hkind := (hT.ok t dd ht).kind
  rw [hk] at hkind
  have hsz := (hT.ok e de he).size w
  have ev := fun z => hs.eval z
  have e1 : ∃ A, a.eval y = .slice A n c := by have := ev y; rw [show (St.mk t0 m).ev y = _ from hy] at this; exact ⟨_, this.2⟩
  obtain ⟨A, e1⟩ := e1
  have e2 : a.eval lo = .int .i64 l := by have := ev lo; rw [show (St.mk t0 m).ev lo = _ from hlo] at this; exact this.2
  have e3 : a.eval hi = .int .i64 h := by have := ev hi; rw [show (St.mk t0 m).ev hi = _ from hhi] at this; exact this.2
  have e4 : a.eval mx = .int .i64 q := by have := ev mx; rw [show (St.mk t0 m).ev mx = _ from hmx] at this; exact this.2
  have eh : (h.toNat : Int) = h := Int.toNat_of_nonneg (by omega)
  have em : (q.toNat : Int) = q := Int.toNat_of_nonneg (by omega)
  have hbd : (Instr.sliceBounds true n c (some (.int .i64 l)) (some (.int .i64 h)) (some (.int .i64 q))).run P w = .ok (l.toNat, h.toNat, q.toNat) w := by
    simp [Instr.sliceBounds, run_sliceBound, *, eh, em, (by omega : 0 ≤ l), (by omega : 0 ≤ h), (by omega : 0 ≤ q)]
  have hrun : ∃ v, (execOp a.eval o).run P w = .ok (.value v) w := by
    refine ⟨.slice (if q.toNat = l.toNat then A else A.map (·.add (l.toNat * de.size))) (h.toNat - l.toNat) (q.toNat - l.toNat), ?_⟩
    simp only [execOp, hop, Instr.sliceAt, Instr.slice, Sem.run_bind, hkind w, Result.andThen_ok, e1, e2, e3, e4, Option.map_some, hbd, hsz, Sem.run_pure]
  obtain ⟨v, hrun⟩ := hrun
  unfold wpL
  rw [if_pos (by simp [Region.wanted, hg])]
  refine .inl ?_
  exact Snd.go hs (dstOk_lt hd) (tv := .unk) (Snd.here hs.mem hrun trivial) fun ρ' a' w' hs'' => k ρ' a' w' hs''
theorem Steps.sliceEnd (hT : Tab.fine P T) {ops : Array Oper} {o : Oper} {t e x n : Nat} {y lo : Operand} {dd de : TyD} {C : St} (hg : o.guard = none) (hop : o.op = .slice t y (some lo) none none) (hd : dstOk E.N o.dst = true) (ht : T t = some dd) (hk : dd.kind = .slice e) (he : T e = some de)
    (hy : evT C.t y = .v (.c (.slc x 0 de.size n n))) (hlo : evT C.t lo = .v (.c (.k (.int .i64 n)))) : Steps P E ops o C (.v (.c (.slc x 0 de.size 0 0))) [] := by
  intro st hle ρ a w hs Kc Q hk2
  have hs' := hs.weakT hle.t
  rw [if_pos (by simp [Region.wanted, hg])]
  have hkind := (hT.ok t dd ht).kind
  rw [hk] at hkind
  have hsz := (hT.ok e de he).size w
  have hy' := hs'.eval y
  rw [show (St.mk C.t st.m).ev y = _ from hy] at hy'
  have e1 : a.eval y = .slice (some ⟨(ρ x).1, (ρ x).2 + 0 * de.size, none⟩) n n := hy'.2
  have e2 : a.eval lo = .int .i64 n := by have := hs'.eval lo; rw [show (St.mk C.t st.m).ev lo = _ from hlo] at this; exact this.2
  have hbd : (Instr.sliceBounds true n n (some (.int .i64 n)) none none).run P w = .ok (n, n, n) w := by
    simp [Instr.sliceBounds, run_sliceBound]
  refine .inl ?_
  refine Snd.go hs (dstOk_lt hd) (tv := .v (.c (.slc x 0 de.size 0 0))) (Snd.here hs.mem (v := .slice (some ⟨(ρ x).1, (ρ x).2 + 0 * de.size, none⟩) 0 0) ?_ ⟨hy'.1, rfl⟩) fun ρ' a' w' hs'' => hk2 ρ' a' w' hs''
  simp only [execOp, hop, Instr.sliceAt, Instr.slice, Sem.run_bind, hkind w, Result.andThen_ok, e1, e2, Option.map_some, Option.map_none, hbd, hsz, Sem.run_pure, if_true, Nat.sub_self]
theorem GD.sliceEnd (hT : Tab.fine P T) {l : List Oper} {cls : List Nat} {X : List (Nat × Nat)} {base : St} {recs : List DR} {rest : List Oper} {tt : Nat → TV} {m : Mem} {o : Oper} {t e x n : Nat} {y lo : Operand} {dd de : TyD} (i : Nat) (hi : recs.length = i) (hg : o.guard = none) (hop : o.op = .slice t y (some lo) none none) (hd : dstOk E.N o.dst = true) (ht : T t = some dd) (hk : dd.kind = .slice e) (he : T e = some de)
    (hy : evT (canF l cls X base i recs).t y = .v (.c (.slc x 0 de.size n n))) (hlo : evT (canF l cls X base i recs).t lo = .v (.c (.k (.int .i64 n))))
    (k : GD P E K l cls X base (⟨o, .v (.c (.slc x 0 de.size 0 0)), []⟩ :: recs) rest (Sx.putT tt o.dst (.v (.c (.slc x 0 de.size 0 0)))) m) : GD P E K l cls X base recs (o :: rest) tt m := by
  rw [canF_eq hi] at hy hlo
  exact GD.step (Steps.sliceEnd hT hg hop hd ht hk he hy hlo) rfl k
end
end Go.Sx
/- The symbolic executor, part AH: a row's own tail is appended to its head in place, and its rest cleared. Generic over P. -/
set_option linter.unusedVariables false
set_option linter.unusedSimpArgs false
namespace Go.Sx
open Go.RowKit
theorem mem_flatE {el : Nat → List Value} {u : Value} : ∀ (n i : Nat), u ∈ flatE el i n → ∃ q, i ≤ q ∧ q < i + n ∧ u ∈ el q
  | 0, i, h => by simp [flatE] at h
  | n + 1, i, h => by
    rw [flatE, List.mem_append] at h
    rcases h with h | h
    · exact ⟨i, Nat.le_refl _, by omega, h⟩
    · obtain ⟨q, h1, h2, h3⟩ := mem_flatE n (i + 1) h
      exact ⟨q, by omega, by omega, h3⟩
section
variable {P : Program} {E : Env} {K : Exit → St → Prop} {T : Tab}
theorem SatM.setArr {ρ : Val} {m : Mem} {w : World} (h : SatM E ρ m w) {x sz n room n2 room2 : Nat} {ty : TypeId} {el el2 : Nat → List Value} (hx : m x = some (.arr ty sz n el room)) {cur cs : Array Value} (hg : w.heap[(ρ x).1]? = some (.cells cur ty (0, 0))) (hs : n2 * sz + room2 ≤ cs.size)
    (he : ∀ i, i < n2 → (el2 i).length = sz ∧ ∀ j, j < sz → cs[i * sz + j]? = (el2 i)[j]?) : SatM E ρ (up m x (some (.arr ty sz n2 el2 room2))) (w.setRow (ρ x).1 cs) := by
  obtain ⟨h1, h2, _⟩ := h.ok x _ hx
  exact h.put hx trivial trivial (h.fr.setRow (mem_bor h2) cs) (by simp) (fun g hne => heap_setRow_ne w (ρ x).1 g cs hne) ⟨h1, h2, cs, setRow_heap w (ρ x).1 cur cs ty (0, 0) hg, hs, he⟩
theorem Steps.appendIn {ops : Array Oper} {o : Oper} {s y : Operand} {t e size bytes x n i k j c c2 : Nat} {z : Value} {C : St} {el : Nat → List Value} (el2 : Nat → List Value) (hp : ApT P t e size bytes z) (hg : o.guard = none) (hop : o.op = .call { callee := .builtin .append, args := #[s, y], argTypes := #[t, t] }) (hd : dstOk E.N o.dst = true)
    (hs : evT C.t s = .v (.c (.slc x 0 size i c))) (hy : evT C.t y = .v (.c (.slc x j size k c2))) (hx : C.m x = some (.arr e size n el 0)) (h1 : i + k ≤ c) (h2 : i + k ≤ n) (h3 : j + k ≤ n) (ho : ∀ q, q < n → ∀ u ∈ el q, u.oneCell' = true) (hel : ∀ q, q < i + k → el2 q = if q < i then el q else el (j + (q - i))) :
    Steps P E ops o C (.v (.c (.slc x 0 size (i + k) c))) [(x, .arr e size (i + k) el2 ((n - (i + k)) * size))] := by
  intro st hle ρ a w hsat Kc Q hk
  have hs' := hsat.weakT hle.t
  obtain ⟨inf, hi, hz, hsi, hbi⟩ := hp.info
  rw [if_pos (by simp [Region.wanted, hg])]
  have hx2 : st.m x = some (.arr e size n el 0) := by
    rcases hle.m x with h | h
    · rw [hx] at h; cases h
    · exact h.trans hx
  obtain ⟨hρx, hox, cur, g1, g2, g3⟩ := hsat.mem.ok x _ hx2
  have es : a.eval s = .slice (some ⟨(ρ x).1, 0, none⟩) i c := by
    have := hs'.eval s
    rw [show (St.mk C.t st.m).ev s = _ from hs] at this
    simpa [AV.conc, AC.conc, hρx] using this.2
  have ey : a.eval y = .slice (some ⟨(ρ x).1, j * size, none⟩) k c2 := by
    have := hs'.eval y
    rw [show (St.mk C.t st.m).ev y = _ from hy] at this
    simpa [AV.conc, AC.conc, hρx] using this.2
  have hlen : ∀ q, j ≤ q → q < j + k → (el q).length = size := fun q _ hq => (g3 q (by omega)).1
  have hl := flatE_len (el := el) (sz := size) k j hlen
  have hget : ∀ d, d < k * size → (flatE el j k)[d]? = cur[j * size + d]? := fun d hd => flatE_get (el := el) (sz := size) k j hlen (fun q => cur[q]?) (fun q _ hq d hd => (g3 q (by omega)).2 d hd) d hd
  have hnews : ∀ d u, (flatE el j k)[d]? = some u → w.cell? ((⟨(ρ x).1, j * size, none⟩ : Addr).add d) = some u := by
    intro d u hd
    have hlt : d < k * size := by have := (List.getElem?_eq_some_iff.1 hd).1; omega
    rw [Addr.add_lit, cell_of_heap g1, ← hget d hlt]
    exact hd
  have hone : ∀ u ∈ flatE el j k, u.oneCell' = true := fun u hu => by
    obtain ⟨q, _, hq, hu⟩ := mem_flatE k j hu
    exact ho q (by omega) u hu
  have hcs : i * size + k * size ≤ cur.size := by
    have := Nat.mul_le_mul_right size h2
    rw [Nat.add_mul] at this
    omega
  have hrun := run_append_room (P := P) w t o.type e inf hp.ht hi (ρ x).1 i c cur g1 ⟨(ρ x).1, j * size, none⟩ k c2 (flatE el j k) (by rw [hsi]; exact hl) hnews hone h1 (by rw [hsi, hl]; exact hcs)
  rw [hsi, hl] at hrun
  have hex : (execOp a.eval o).run P w = .ok (.value (.slice (some ⟨(ρ x).1, 0, none⟩) (i + k) c)) (w.setRow (ρ x).1 (cur.toList.take (i * size) ++ flatE el j k ++ cur.toList.drop (i * size + k * size)).toArray) := by
    simp only [List.append_assoc] at hrun
    simp [execOp, hop, resolve, invoke, builtin, es, ey, hrun, Result.andThen]
  have hlt0 : (List.take (i * size) cur.toList).length = i * size := by simp; omega
  have hmem := hsat.mem.setArr hx2 (n2 := i + k) (room2 := (n - (i + k)) * size) (el2 := el2) (cs := (cur.toList.take (i * size) ++ flatE el j k ++ cur.toList.drop (i * size + k * size)).toArray) g1 (by
    simp only [List.size_toArray, List.length_append, hlt0, hl, List.length_drop, Array.length_toList]
    have : (i + k) * size + (n - (i + k)) * size = n * size := by rw [← Nat.add_mul]; congr 1; omega
    rw [this]
    rw [Nat.add_zero] at g2
    omega) fun q hq => by
    rw [hel q hq]
    by_cases h : q < i
    · rw [if_pos h]
      refine ⟨(g3 q (by omega)).1, fun d hd => ?_⟩
      have hlt : q * size + d < i * size := by
        have := Nat.mul_le_mul_right size (show q + 1 ≤ i from h)
        rw [Nat.add_mul] at this
        omega
      rw [← (g3 q (by omega)).2 d hd]
      simp only [List.getElem?_toArray]
      rw [List.append_assoc, List.getElem?_append_left (by rw [hlt0]; exact hlt), List.getElem?_take, if_pos hlt]
      simp
    · rw [if_neg h]
      refine ⟨(g3 _ (by omega)).1, fun d hd => ?_⟩
      have e1 : q * size + d = i * size + ((q - i) * size + d) := by
        have : q * size = i * size + (q - i) * size := by rw [← Nat.add_mul]; congr 1; omega
        omega
      have hlt : (q - i) * size + d < k * size := by
        have := Nat.mul_le_mul_right size (show (q - i) + 1 ≤ k by omega)
        rw [Nat.add_mul] at this
        omega
      rw [← (g3 (j + (q - i)) (by omega)).2 d hd]
      simp only [List.getElem?_toArray]
      rw [List.append_assoc, List.getElem?_append_right (by rw [hlt0]; omega), hlt0, List.getElem?_append_left (by rw [hl]; omega), show q * size + d - i * size = (q - i) * size + d by omega, hget _ hlt]
      congr 1
      rw [Nat.add_mul]
      omega
  refine .inl ?_
  unfold Oper.wp
  rw [hex]
  refine hk ρ _ _ ?_
  rw [upm_one]
  refine (hsat.move hmem (fun q hq => isSome_up q hq) fun _ _ => rfl).putT (dstOk_lt hd) (tv := .v (.c (.slc x 0 size (i + k) c))) ⟨?_, ?_⟩
  · show (up st.m x _ x).isSome = true
    rw [up_same]; rfl
  · simp [AV.conc, AC.conc, hρx]
theorem GD.appendIn {l : List Oper} {cls : List Nat} {X : List (Nat × Nat)} {base : St} {recs : List DR} {rest : List Oper} {tt : Nat → TV} {m : Mem} {o : Oper} {s y : Operand} {t e size bytes x n i k j c c2 : Nat} {z : Value} {el : Nat → List Value} (el2 : Nat → List Value) (r : Nat) (hi : recs.length = r) (hp : ApT P t e size bytes z) (hg : o.guard = none) (hop : o.op = .call { callee := .builtin .append, args := #[s, y], argTypes := #[t, t] }) (hd : dstOk E.N o.dst = true)
    (hs : evT (canF l cls X base r recs).t s = .v (.c (.slc x 0 size i c))) (hy : evT (canF l cls X base r recs).t y = .v (.c (.slc x j size k c2))) (hx : (canF l cls X base r recs).m x = some (.arr e size n el 0)) (hw : Wok X r o [(x, .arr e size (i + k) el2 ((n - (i + k)) * size))] = true) (h1 : i + k ≤ c) (h2 : i + k ≤ n) (h3 : j + k ≤ n) (ho : ∀ q, q < n → ∀ u ∈ el q, u.oneCell' = true) (hel : ∀ q, q < i + k → el2 q = if q < i then el q else el (j + (q - i)))
    (kk : GD P E K l cls X base (⟨o, .v (.c (.slc x 0 size (i + k) c)), [(x, .arr e size (i + k) el2 ((n - (i + k)) * size))]⟩ :: recs) rest (Sx.putT tt o.dst (.v (.c (.slc x 0 size (i + k) c)))) (upm m [(x, .arr e size (i + k) el2 ((n - (i + k)) * size))])) : GD P E K l cls X base recs (o :: rest) tt m := by
  rw [canF_eq hi] at hs hy hx
  exact GD.step (Steps.appendIn el2 hp hg hop hd hs hy hx h1 h2 h3 ho hel) (by rw [hi]; exact hw) kk
/-- One operation of a region that draws, by itself. -/
theorem GD.op1 (hT : Tab.fine P T) {l : List Oper} {cls : List Nat} {X : List (Nat × Nat)} {base : St} {recs : List DR} {rest : List Oper} {tt : Nat → TV} {m m' : Mem} {o : Oper} {tv : TV} {obs : List Prop} (i : Nat) (hi : recs.length = i) (h : stepE T E.N l.toArray (canF l cls X base i recs).t (canF l cls X base i recs).m o = .ok tv m' obs) (ho : AllP obs) (hms : msS (canF l cls X base i recs) o m' = [])
    (k : GD P E K l cls X base (⟨o, tv, []⟩ :: recs) rest (Sx.putT tt o.dst tv) m) : GD P E K l cls X base recs (o :: rest) tt m := by
  rw [canF_eq hi] at h hms
  have := Steps.op (P := P) (E := E) hT h ho
  rw [hms] at this
  exact GD.step this rfl k
theorem GO.clear {ops : Array Oper} {rest : List Oper} {o : Oper} {y : Operand} {t e size bytes x n i k c room : Nat} {z : Value} {t0 : Nat → TV} {m : Mem} {el : Nat → List Value} (hp : ApT P t e size bytes z) (hg : o.guard = none) (hop : o.op = .call { callee := .builtin .clear, args := #[y], argTypes := #[t] }) (hd : o.dst = none)
    (hy : evT t0 y = .v (.c (.slc x i size k c))) (hx : m x = some (.arr e size n el room)) (hk0 : 0 < k) (hni : n ≤ i) (hfit : (i + k) * size ≤ n * size + room) (hz : ∀ w : World, (zeroValue e).run P w = .ok z w) (h1 : ∀ u ∈ z.cells.toList, u.oneCell' = true)
    (kk : GO P E ops K rest ⟨t0, m⟩) : GO P E ops K (o :: rest) ⟨t0, m⟩ := by
  intro ρ a w hsat
  obtain ⟨hρx, hox, cur, g1, g2, g3⟩ := hsat.mem.ok x _ hx
  have ey : a.eval y = .slice (some ⟨(ρ x).1, i * size, none⟩) k c := by
    have := hsat.eval y
    rw [show (St.mk t0 m).ev y = _ from hy] at this
    simpa [AV.conc, AC.conc, hρx] using this.2
  obtain ⟨zs, hzs⟩ : ∃ zs, zs = (Builtin.zeroCells z.cells k).toList := ⟨_, rfl⟩
  have hzl : zs.length = k * size := by rw [hzs, Array.length_toList, size_zeroCells, hp.hz]
  have hz1 : ∀ u ∈ zs, u.oneCell' = true := by
    intro u hu
    rw [hzs] at hu
    simp only [Builtin.zeroCells, Array.toList_map, List.mem_map] at hu
    obtain ⟨q, _, rfl⟩ := hu
    have hlt : q % z.cells.size < z.cells.size := Nat.mod_lt _ (by rw [hp.hz]; exact hp.pos)
    rw [getElem!_pos z.cells _ hlt]
    exact h1 _ (Array.getElem_mem_toList hlt)
  have hst := run_storeCells_at P (ρ x).1 (i * size) e zs 0 cur w g1 (by rw [hzl]; rw [Nat.add_mul] at hfit; omega) hz1
  simp only [Nat.add_zero] at hst
  have hrun : (execOp a.eval o).run P w = .ok (.value (.tuple #[])) (w.setRow (ρ x).1 (cur.toList.take (i * size) ++ zs ++ cur.toList.drop (i * size + zs.length)).toArray) := by
    obtain ⟨k', rfl⟩ : ∃ k', k = k' + 1 := ⟨k - 1, by omega⟩
    simp [execOp, hop, resolve, invoke, builtin, ey, Builtin.clear_, run_underlying hp.ht, hz, ← hzs, hst, Result.andThen]
  have hmem := hsat.mem.setArr hx (n2 := n) (room2 := room) (el2 := el) (cs := (cur.toList.take (i * size) ++ zs ++ cur.toList.drop (i * size + zs.length)).toArray) g1 (by
    simp only [List.size_toArray, List.length_append, List.length_take, List.length_drop, Array.length_toList, hzl]
    rw [Nat.add_mul] at hfit
    omega) fun q hq => by
    refine ⟨(g3 q hq).1, fun d hd => ?_⟩
    have hlt : q * size + d < i * size := by
      have := Nat.mul_le_mul_right size (show q + 1 ≤ i by omega)
      rw [Nat.add_mul] at this
      omega
    rw [← (g3 q hq).2 d hd]
    simp only [List.getElem?_toArray]
    rw [List.append_assoc, List.getElem?_append_left (by simp; rw [Nat.add_mul] at hfit; omega), List.getElem?_take, if_pos hlt]
    simp
  have hm0 : up m x (some (.arr e size n el room)) = m := by
    funext q
    by_cases hq : q = x
    · subst hq; rw [up_same, hx]
    · rw [up_other _ _ hq]
  rw [hm0] at hmem
  unfold wpL
  rw [if_pos (by simp [Region.wanted, hg])]
  refine .inl ?_
  unfold Oper.wp
  rw [hrun]
  refine kk ρ _ _ ?_
  have := (hsat.move hmem (fun q hq => hq) fun _ _ => rfl).putT (d := o.dst) (fun q hq => by rw [hd] at hq; cases hq) (tv := .unk) (v := .tuple #[]) trivial
  rw [hd] at this ⊢
  exact this
def min3 (a b c : Int) : Int := if c < (if b < a then b else a) then c else if b < a then b else a
/-- The least of three numbers, under a guard. -/
theorem GO.min3G {ops : Array Oper} {rest : List Oper} {o : Oper} {at_ : Array TypeId} {j : Nat} {p q r : Operand} {want cb : Bool} {t0 : Nat → TV} {m : Mem} (a b c : Int) (hg : o.guard = some (j, want)) (hb : guardB ops t0 j want = some cb) (hop : o.op = .call { callee := .builtin .min, args := #[p, q, r], argTypes := at_ })
    (hob : AllP (stripObs t0 j want cb (slotsOf o.op.operands.toList))) (hp : evG t0 j want (slotsOf o.op.operands.toList) p = .v (.c (.k (.int .i64 a)))) (hq : evG t0 j want (slotsOf o.op.operands.toList) q = .v (.c (.k (.int .i64 b)))) (hr : evG t0 j want (slotsOf o.op.operands.toList) r = .v (.c (.k (.int .i64 c)))) (hd : dstOk E.N o.dst = true)
    (k : GO P E ops K rest ⟨Sx.putT t0 o.dst (.grd j want cb (.c (.k (.int .i64 (min3 a b c))))), m⟩) : GO P E ops K (o :: rest) ⟨t0, m⟩ := by
  refine GO.steps (tv := .grd j want cb (.c (.k (.int .i64 (min3 a b c))))) (ms := []) ?_ k
  intro st hle ρ ac w hs Kc Q hk
  have hs' := hs.weakT hle.t
  have hw := wanted_cond (ops := ops) hs' hg hb
  rw [hw]
  cases hcb : cb with
  | true =>
    subst hcb
    rw [if_pos rfl]
    have hev := fun y => evG_rep hs' hob rfl y
    have e1 : ac.eval p = .int .i64 a := by have := hev p; rw [hp] at this; exact this.2
    have e2 : ac.eval q = .int .i64 b := by have := hev q; rw [hq] at this; exact this.2
    have e3 : ac.eval r = .int .i64 c := by have := hev r; rw [hr] at this; exact this.2
    have hrun : (execOp ac.eval o).run P w = .ok (.value (.int .i64 (min3 a b c))) w := by
      simp only [execOp, hop, resolve, List.map_toArray, List.map_cons, List.map_nil, Sem.run_bind, Sem.run_pure, Result.andThen_ok, invoke, builtin, Builtin.min_, e1, e2, e3, List.foldlM_cons, List.foldlM_nil, Builtin.min2]
      rfl
    refine .inl ?_
    exact Snd.go hs (dstOk_lt hd) (tv := .grd j want true (.c (.k (.int .i64 (min3 a b c))))) (Snd.here hs.mem hrun ⟨fun _ => ⟨trivial, rfl⟩, fun hf => by cases hf⟩) fun ρ' a' w' hs'' => hk ρ' a' w' hs''
  | false =>
    subst hcb
    rw [if_neg (by simp)]
    exact hk ρ _ w (hs.putT (dstOk_lt hd) ⟨fun hf => (by cases hf), fun _ => rfl⟩)
/-- A function that answers with a row of its own making. -/
def endOwnN (T : Tab) (fn : Func) (ty : TypeId) (n sz : Nat) (el : Nat → List Value) : Exit → St → Prop := fun e st => (e = .ret ∨ e = .normal) ∧ ∃ r, fn.results.toList = [r] ∧ ∃ x c el2 room, resOne T st r = .v (.c (.slc x 0 sz n c)) ∧ n ≤ c ∧ st.m x = some (.arr ty sz n el2 room) ∧ ∀ i, i < n → el2 i = el i
theorem enterOwnNew (hT : Tab.fine P T) {f : FuncId} {fn : Func} {c : Code} {args : Array Value} {w : World} (ty : TypeId) (n sz : Nat) (el : Nat → List Value) (hf : P.funcs[f]? = some fn) (hb : fn.body = some c) (N : Nat) (hN : fn.ntmps = N) (avs : List AV) (l : List Inp)
    (hargs : args = (avs.map (AV.conc (inpsV l))).toArray) (hl : Nat.ble avs.length N = true) (hr : allRd w l) (ha : allInps l avs)
    (h : G P ⟨w, [], N, none, []⟩ (endOwnN T fn ty n sz el) c ⟨argsT avs, lkM (inpsM l)⟩) : Calls P f args w fun e w' => OwnNew w w' e ty n sz el ∧ Below w.heap.size w w' := by
  subst hN
  refine enter rfl (E := ⟨w, [], fn.ntmps, none, []⟩) hf hb (inpsV l) (Sat.init hr ha hargs (Nat.le_of_ble_eq_true hl)) (h.mono fun e st hk => ⟨hk.1, fun ρ a w' hs => ?_⟩)
  obtain ⟨r, h1, x, cp, el2, room, h2, h3, h4, h5⟩ := hk.2
  obtain ⟨h6, h7⟩ := resOne_run hT hs h2
  obtain ⟨k1, k2, k3⟩ := hs.mem.ok x _ h4
  have k2 : w.heap.size ≤ (ρ x).1 := by
    rcases k2 with h | h
    · exact h
    · cases h
  obtain ⟨cs, q1, q2, q3⟩ := k3
  refine ⟨_, results_one h1 h6, ⟨(ρ x).1, cp, ?_, h3, k2, cs, q1, by omega, fun i hi => by rw [← h5 i hi]; exact q3 i hi⟩, hs.mem.fr.toBelow⟩
  simp [AV.conc, AC.conc, k1]
theorem endOwnN.ret {fn : Func} {ty n sz c x room : Nat} {el el2 : Nat → List Value} {st : St} {r : ResultVar} (h : fn.results.toList = [r]) (h1 : resOne T st r = .v (.c (.slc x 0 sz n c))) (h2 : n ≤ c) (h3 : st.m x = some (.arr ty sz n el2 room)) (h4 : ∀ i, i < n → el2 i = el i) : endOwnN T fn ty n sz el .ret st := ⟨.inl rfl, r, h, x, c, el2, room, h1, h2, h3, h4⟩
end
end Go.Sx
/- The symbolic executor, part AI: append onto an empty row, in regions that draw their order. Generic over P. -/
set_option linter.unusedVariables false
set_option linter.unusedSimpArgs false
namespace Go.Sx
open Go.RowKit
section
variable {P : Program} {E : Env} {K : Exit → St → Prop} {T : Tab}
theorem Steps.emptyOwn (hT : Tab.fine P T) {ops : Array Oper} {o : Oper} {t e d : Nat} {dd de : TyD} {C : St} (sz : Nat) (el : Nat → List Value) (hg : o.guard = none) (hop : o.op = .buildSlice t 0 #[]) (hd : o.dst = some d) (hdN : Nat.blt d E.N = true) (hdb : Nat.blt d 1000 = true) (ht : T t = some dd) (hk : dd.kind = .slice e) (he : T e = some de) (hx : C.m d = none) :
    Steps P E ops o C (.v (.c (.slc d 0 sz 0 0))) [(d, .arr e sz 0 el 0)] := by
  intro st hle ρ a w hs Kc Q hk2
  rw [if_pos (by simp [Region.wanted, hg])]
  have hkind := (hT.ok t dd ht).kind
  rw [hk] at hkind
  have hsz := (hT.ok e de he).size w
  have hrun : (execOp a.eval o).run P w = .ok (.value (.slice (some ⟨w.heap.size, 0, none⟩) 0 0)) (w.alloc (.cells #[] e)) := by
    simp [execOp, hop, Instr.buildSlice, hkind w, hsz, Instr.fill, newRow]
    rw [show (w.alloc (.cells #[] e)) = w.alloc (.cells (Array.map (fun _ => (default : Value)) (Array.range 0)) e) by rw [show (Array.map (fun _ => (default : Value)) (Array.range 0)) = #[] from by apply Array.toList_inj.1; simp]]
  have hx2 : st.m d = none := by
    rw [hle.n d (by simp [mget])]
    exact hx
  have hm := hs.mem.newArr (x := d) hx2 (by simpa [Nat.blt_eq] using hdb) e (sz := sz) (n := 0) (room := 0) (el := el) (a := #[]) (by simp) (fun i hi => absurd hi (Nat.not_lt_zero i))
  have hρ : ∀ y, (st.m y).isSome = true → up ρ d (w.heap.size, 0) y = ρ y := fun y hy => up_other _ _ (fun e => by subst e; simp [hx2] at hy)
  refine .inl ?_
  unfold Oper.wp
  rw [hrun]
  refine hk2 (up ρ d (w.heap.size, 0)) _ _ ?_
  rw [upm_one]
  refine (hs.move hm (fun y hy => isSome_up y hy) hρ).putT (fun q hq => by rw [hd] at hq; injection hq with hq; subst hq; simpa [Nat.blt_eq] using hdN) (tv := .v (.c (.slc d 0 sz 0 0))) ⟨?_, ?_⟩
  · show (up st.m d _ d).isSome = true
    rw [up_same]; rfl
  · simp [AV.conc, AC.conc, up_same]
theorem GD.emptyOwn (hT : Tab.fine P T) {l : List Oper} {cls : List Nat} {X : List (Nat × Nat)} {base : St} {recs : List DR} {rest : List Oper} {tt : Nat → TV} {m : Mem} {o : Oper} {t e d : Nat} {dd de : TyD} (sz : Nat) (el : Nat → List Value) (i : Nat) (hi : recs.length = i) (hg : o.guard = none) (hop : o.op = .buildSlice t 0 #[]) (hd : o.dst = some d) (hdN : Nat.blt d E.N = true) (hdb : Nat.blt d 1000 = true) (ht : T t = some dd) (hk : dd.kind = .slice e) (he : T e = some de) (hx : (canF l cls X base i recs).m d = none) (hw : Wok X i o [(d, .arr e sz 0 el 0)] = true)
    (k : GD P E K l cls X base (⟨o, .v (.c (.slc d 0 sz 0 0)), [(d, .arr e sz 0 el 0)]⟩ :: recs) rest (Sx.putT tt o.dst (.v (.c (.slc d 0 sz 0 0)))) (upm m [(d, .arr e sz 0 el 0)])) : GD P E K l cls X base recs (o :: rest) tt m := by
  rw [canF_eq hi] at hx
  exact GD.step (Steps.emptyOwn hT sz el hg hop hd hdN hdb ht hk he hx) (by rw [hi]; exact hw) k
theorem Steps.appendRowNew {ops : Array Oper} {o : Oper} {s y : Operand} {t e size bytes d x sz' q n c : Nat} {z : Value} {A : Option Addr} {C : St} (el : Nat → List Value) (hp : ApT P t e size bytes z) (hg : o.guard = none) (hop : o.op = .call { callee := .builtin .append, args := #[s, y], argTypes := #[t, t] }) (hd : o.dst = some d) (hdN : Nat.blt d E.N = true) (hdb : Nat.blt (d + 50) 1000 = true)
    (hx : C.m d = none) (hx2 : C.m (d + 50) = none) (hs : evT C.t s = .v (.c (.slc x 0 sz' 0 0))) (hy : evT C.t y = .v (.c (.inp q A n c))) (hq : C.m q = some (.ro size n el)) (hlen : ∀ k, k < n → (el k).length = size) (h1 : ∀ i, i < n → ∀ u ∈ el i, u.oneCell' = true) (b1 : n ≤ maxLen) (b2 : n * bytes ≤ 140737488355328) :
    Steps P E ops o C (.v (.c (.row d n E.w0.heap.size))) (msL [.r n size el] [d]) := by
  intro st hle ρ a w hsat Kc Q hk
  have hs' := hsat.weakT hle.t
  rw [if_pos (by simp [Region.wanted, hg])]
  have n1 : st.m d = none := by rw [hle.n d (by simp only [msL, mget, List.nil_append]; cases Nat.beq d (d + 50) <;> simp)]; exact hx
  have n2 : st.m (d + 50) = none := by rw [hle.n (d + 50) (by simp [msL, mget])]; exact hx2
  have hq2 : st.m q = some (.ro size n el) := by
    rcases hle.m q with h | h
    · rw [hq] at h; cases h
    · exact h.trans hq
  have hs2 := hs'.eval s
  rw [show (St.mk C.t st.m).ev s = _ from hs] at hs2
  obtain ⟨AA, hAA⟩ : ∃ AA : Addr, AA = ⟨(ρ x).1, (ρ x).2 + 0 * sz', none⟩ := ⟨_, rfl⟩
  have es : a.eval s = .slice (some AA) 0 0 := by rw [hAA]; exact hs2.2
  have hy2 := hs'.eval y
  rw [show (St.mk C.t st.m).ev y = _ from hy] at hy2
  have ey : a.eval y = .slice A n c := hy2.2
  have hr : RdRow w A n size el := hsat.mem.rd (cap := c) hq2 hy2.1 (Nat.le_refl _)
  have key : ∀ (B : Option Addr) (cp : Nat) (w' : World), Below w.heap.size w w' → (execOp a.eval o).run P w = .ok (.value (.slice B n cp)) w' → (0 < n → ∃ b o, B = some ⟨b, o, none⟩ ∧ w.heap.size ≤ b ∧ b < w'.heap.size ∧ ∀ i, i < n → (el i).length = size ∧ ∀ j, j < size → w'.cell? ⟨b, o + (i * size + j), none⟩ = (el i)[j]?) → (∀ a, B = some a → a.spot = none) → n ≤ cp → o.wp P a w Kc Q ∨ YieldW P o a w Kc := by
    intro B cp w' hb hrun h3 h4 h5
    obtain ⟨ρ', k1, k2, k3, k4, _⟩ := (hsat.mem.below hb).addRow (fun y b hy ho => hsat.mem.lt hy ho) n1 n2 hdb h3 h4 h5
    refine .inl ?_
    unfold Oper.wp
    rw [hrun]
    refine hk ρ' _ w' ?_
    rw [upm_msL]
    refine (hsat.move k2 (fun y hy => isSome_rowM y hy) k1).putT (fun q hq => by rw [hd] at hq; injection hq with hq; subst hq; simpa [Nat.blt_eq] using hdN) (tv := .v (.c (.row d n E.w0.heap.size))) ⟨?_, ?_⟩
    · obtain ⟨r1, r2, r3, r4⟩ := k3
      exact ⟨r1, r2, fun h0 => ⟨(r3 h0).1, Nat.le_trans hsat.mem.fr.size (r3 h0).2⟩, r4⟩
    · exact k4.symm
  rcases append_new (ty := o.type) hp (A := some AA) (c := c) hr h1 b1 b2 with ⟨h0, hrun⟩ | ⟨h0, v', w', hrun, r1, r2⟩
  · refine key (some AA) 0 w (Below.refl _ _) ?_ (fun h => by omega) (fun a ha => by injection ha with ha; subst ha; rw [hAA]) (by omega)
    rw [h0] at ey ⊢
    rw [h0] at hrun
    simp [execOp, hop, resolve, invoke, builtin, es, ey, hrun, Result.andThen]
  · have hb : Below w.heap.size w w' := ⟨r2.os, r2.tape, r2.output, r2.size, fun k hk => r2.block k hk (by simp)⟩
    rcases r1.2 with ⟨_, hz⟩ | ⟨g, cp, cur, rfl, hbg, hgg, hnc, hcm, hcs, htake⟩
    · omega
    refine key (some ⟨g, 0, none⟩) cp w' hb ?_ (fun _ => ⟨g, 0, rfl, hbg, lt_of_heap hgg, fun i hi => ⟨hlen i hi, fun j hj => ?_⟩⟩) (fun a ha => by injection ha with ha; subst ha; rfl) hnc
    · simp [execOp, hop, resolve, invoke, builtin, es, ey, hrun, Result.andThen]
    · rw [Nat.zero_add, cell_of_heap hgg, ← flatE_at hlen hi hj, ← htake, List.getElem?_take, if_pos (by
        have := Nat.mul_le_mul_right size (show i + 1 ≤ n from hi)
        rw [Nat.add_mul] at this
        omega)]
      simp
theorem GD.appendRowNew {l : List Oper} {cls : List Nat} {X : List (Nat × Nat)} {base : St} {recs : List DR} {rest : List Oper} {tt : Nat → TV} {m : Mem} {o : Oper} {s y : Operand} {t e size bytes d x sz' q n c : Nat} {z : Value} {A : Option Addr} (el : Nat → List Value) (i : Nat) (hi : recs.length = i) (hp : ApT P t e size bytes z) (hg : o.guard = none) (hop : o.op = .call { callee := .builtin .append, args := #[s, y], argTypes := #[t, t] }) (hd : o.dst = some d) (hdN : Nat.blt d E.N = true) (hdb : Nat.blt (d + 50) 1000 = true)
    (hx : (canF l cls X base i recs).m d = none) (hx2 : (canF l cls X base i recs).m (d + 50) = none) (hs : evT (canF l cls X base i recs).t s = .v (.c (.slc x 0 sz' 0 0))) (hy : evT (canF l cls X base i recs).t y = .v (.c (.inp q A n c))) (hq : (canF l cls X base i recs).m q = some (.ro size n el)) (hw : Wok X i o (msL [.r n size el] [d]) = true) (hlen : ∀ k, k < n → (el k).length = size) (h1 : ∀ i, i < n → ∀ u ∈ el i, u.oneCell' = true) (b1 : n ≤ maxLen) (b2 : n * bytes ≤ 140737488355328)
    (k : GD P E K l cls X base (⟨o, .v (.c (.row d n E.w0.heap.size)), msL [.r n size el] [d]⟩ :: recs) rest (Sx.putT tt o.dst (.v (.c (.row d n E.w0.heap.size)))) (upm m (msL [.r n size el] [d]))) : GD P E K l cls X base recs (o :: rest) tt m := by
  rw [canF_eq hi] at hx hx2 hs hy hq
  exact GD.step (Steps.appendRowNew el hp hg hop hd hdN hdb hx hx2 hs hy hq hlen h1 b1 b2) (by rw [hi]; exact hw) k
end
end Go.Sx
/- The symbolic executor, part AJ: structs of structs, compared. Generic over P. -/
set_option linter.unusedVariables false
set_option linter.unusedSimpArgs false
namespace Go.Sx
open Go.RowKit
theorem part_struct {P : Program} {t : TypeId} {gs : Array Field} {k : Nat} (hu : P.underlying t = some (.struct gs)) (hi : (P.info? t).map (·.size) = some k) (xs : Array Value) (off : Nat) (w : World) : (part t xs off).run P w = .ok (.agg (xs.extract off (off + k))) w := by
  cases hx : P.info? t with
  | none => rw [hx] at hi; cases hi
  | some i =>
    rw [hx] at hi
    have hi : i.size = k := by simpa using hi
    subst hi
    simp [part, isAgg, run_underlying hu, sizeOf, typeInfo, hx, Result.andThen]
def nestOK (P : Program) : Nat → List Field → List (List Value) → List (List Value) → Prop
  | _, [], [], [] => True
  | i, f :: fs, X :: XS, Y :: YS => f.name ≠ "_" ∧ f.offset = i ∧ X.length = Y.length ∧ (∃ gs, P.underlying f.type = some (.struct gs) ∧ P.stoodInHeld f.type = false ∧ flatF P 0 gs.toList = true ∧ fitL P gs.toList X Y = true) ∧ (P.info? f.type).map (·.size) = some X.length ∧ nestOK P (i + X.length) fs XS YS
  | _, _, _, _ => False
def nestB (P : Program) : Nat → List Field → List (List Value) → List (List Value) → Bool
  | _, [], [], [] => true
  | i, f :: fs, X :: XS, Y :: YS => (f.name != "_") && (Nat.beq f.offset i && (Nat.beq X.length Y.length && ((match P.underlying f.type with | some (.struct gs) => !(P.stoodInHeld f.type) && (flatF P 0 gs.toList && fitL P gs.toList X Y) | _ => false) && ((match P.info? f.type with | some q => Nat.beq q.size X.length | none => false) && nestB P (i + X.length) fs XS YS))))
  | _, _, _, _ => false
theorem nestB_ok {P : Program} : ∀ (i : Nat) (fs : List Field) (XS YS : List (List Value)), nestB P i fs XS YS = true → nestOK P i fs XS YS
  | _, [], [], [], _ => trivial
  | i, f :: fs, X :: XS, Y :: YS, h => by
    simp only [nestB, Bool.and_eq_true] at h
    obtain ⟨h1, h2, h3, h4, h5, h6⟩ := h
    refine ⟨by simpa using h1, Nat.eq_of_beq_eq_true h2, Nat.eq_of_beq_eq_true h3, ?_, ?_, nestB_ok _ _ _ _ h6⟩
    · split at h4
      · rename_i gs hu
        simp only [Bool.and_eq_true, Bool.not_eq_true'] at h4
        exact ⟨gs, hu, h4.1, h4.2.1, h4.2.2⟩
      · cases h4
    · split at h5
      · rename_i q hq
        rw [hq]
        simpa using Nat.eq_of_beq_eq_true h5
      · cases h5
  | _, [], [], _ :: _, h => by cases h
  | _, [], _ :: _, _, h => by cases h
  | _, _ :: _, [], _, h => by cases h
  | _, _ :: _, _ :: _, [], h => by cases h
def eqLL : List (List Value) → List (List Value) → Bool
  | X :: XS, Y :: YS => eqL X Y && eqLL XS YS
  | _, _ => true
theorem cut_mid {pre X rest : List Value} {i : Nat} (h : pre.length = i) : (pre ++ (X ++ rest)).toArray.extract i (i + X.length) = X.toArray := by
  subst h
  simp
theorem run_eqFieldsN {P : Program} (d : Nat) : ∀ (fs : List Field) (i : Nat) (pre pre' : List Value) (XS YS : List (List Value)), pre.length = i → pre'.length = i → nestOK P i fs XS YS → ∀ w : World, (Op.eqFields (d + 2) (pre ++ XS.flatten).toArray (pre' ++ YS.flatten).toArray fs).run P w = .ok (eqLL XS YS) w
  | [], i, pre, pre', [], [], _, _, _, w => by simp [Op.eqFields, eqLL]
  | [], i, pre, pre', _ :: _, _, _, _, h, w => h.elim
  | [], i, pre, pre', [], _ :: _, _, _, h, w => h.elim
  | _ :: _, i, pre, pre', [], _, _, _, h, w => h.elim
  | _ :: _, i, pre, pre', _ :: _, [], _, _, h, w => h.elim
  | f :: fs, i, pre, pre', X :: XS, Y :: YS, hp, hp', h, w => by
    obtain ⟨hn, ho, hl, ⟨gs, hu, hs, hf, hx⟩, hi, hr⟩ := h
    have ih := run_eqFieldsN d fs (i + X.length) (pre ++ X) (pre' ++ Y) XS YS (by simp [hp]) (by simp [hp', hl]) hr w
    rw [List.append_assoc, List.append_assoc] at ih
    have hS : P.fieldsOf f.type = gs := by rw [Program.fieldsOf, hu]
    have e : (Op.equalIn (d + 1 + 1) f.type (.agg X.toArray) (.agg Y.toArray)).run P w = .ok (eqL X Y) w := by
      rw [run_equalIn_agg w (d + 1) f.type _ _ (by rw [hS]; exact hu) hs, hS]
      exact run_eqFields d gs.toList 0 [] [] X Y rfl rfl hf hx w
    simp only [List.flatten_cons]
    simp only [Op.eqFields, if_pos hn, Sem.run_bind, part_struct hu hi, ho, cut_mid hp, Result.andThen_ok]
    rw [hl, cut_mid hp', e]
    simp only [Result.andThen_ok]
    rw [eqLL]
    cases eqL X Y with
    | false => simp
    | true => simpa using ih
structure CmpV (P : Program) (t : TypeId) (X Y : List Value) (r : Bool) : Prop where
  guard : P.eqGuardType P.depth t = false
  run : ∀ w : World, (Op.equalIn 10000 t (.agg X.toArray) (.agg Y.toArray)).run P w = .ok r w
theorem cmpV_nest {P : Program} {t : TypeId} {fs : Array Field} {X Y : List Value} {r : Bool} (XS YS : List (List Value)) (hu : P.underlying t = some (.struct fs)) (hs : P.stoodInHeld t = false) (hg : P.eqGuardType P.depth t = false) (hX : X = XS.flatten) (hY : Y = YS.flatten) (h : nestOK P 0 fs.toList XS YS) (hr : eqLL XS YS = r) : CmpV P t X Y r := by
  refine ⟨hg, fun w => ?_⟩
  have hS : P.fieldsOf t = fs := by rw [Program.fieldsOf, hu]
  subst hX hY hr
  rw [show (10000 : Nat) = 9999 + 1 from rfl, run_equalIn_agg w 9999 t _ _ (by rw [hS]; exact hu) hs, hS]
  exact run_eqFieldsN 9997 fs.toList 0 [] [] XS YS rfl rfl h w
section
variable {P : Program} {E : Env} {K : Exit → St → Prop} {T : Tab}
def negR (neg r : Bool) : Bool := match neg with
  | false => r
  | true => !r
theorem exec_structEqV {t t' : TypeId} {y z : Operand} {o : Oper} {X Y : List Value} {r : Bool} (neg : Bool) (hop : o.op = .binOp (eqOp neg) t y z t') (hc : CmpV P t X Y r) {η : Operand → Value} (hy : η y = .agg X.toArray) (hz : η z = .agg Y.toArray) (w : World) :
    (execOp η o).run P w = .ok (.value (.bool (negR neg r))) w := by
  cases neg
  · simp only [execOp, hop, eqOp, negR, hy, hz, Sem.run_bind, run_eqGuard_agg w .eql t y z _ _ hc.guard, Result.andThen_ok, run_eql_struct, hc.run w, Sem.run_pure]
  · simp only [execOp, hop, eqOp, negR, hy, hz, Sem.run_bind, run_eqGuard_agg w .neq t y z _ _ hc.guard, Result.andThen_ok, run_neq_struct, hc.run w, Sem.run_pure]
theorem Steps.structEqV {ops : Array Oper} {o : Oper} {t t' : TypeId} {y z : Operand} {C : St} (neg : Bool) (X Y : List Value) {r : Bool} (hg : o.guard = none) (hop : o.op = .binOp (eqOp neg) t y z t') (hy : evT C.t y = .v (.agg (X.map .k))) (hz : evT C.t z = .v (.agg (Y.map .k))) (hd : dstOk E.N o.dst = true)
    (hc : CmpV P t X Y r) : Steps P E ops o C (.v (.c (.k (.bool (negR neg r))))) [] := by
  intro st hle ρ a w hs Kc Q hk
  have hs' := hs.weakT hle.t
  rw [if_pos (by simp [Region.wanted, hg])]
  have e1 : a.eval y = .agg X.toArray := by have := hs'.eval y; rw [show (St.mk C.t st.m).ev y = .v (.agg (X.map .k)) from hy] at this; rw [← map_k_conc ρ]; exact this.2
  have e2 : a.eval z = .agg Y.toArray := by have := hs'.eval z; rw [show (St.mk C.t st.m).ev z = .v (.agg (Y.map .k)) from hz] at this; rw [← map_k_conc ρ]; exact this.2
  refine .inl ?_
  exact Snd.go hs (dstOk_lt hd) (tv := .v (.c (.k (.bool (negR neg r))))) (Snd.here hs.mem (v := .bool (negR neg r)) (exec_structEqV neg hop hc e1 e2 w) ⟨trivial, rfl⟩) fun ρ' a' w' hs'' => hk ρ' a' w' hs''
theorem Steps.structEqGV {ops : Array Oper} {o : Oper} {t t' : TypeId} {y z : Operand} {C : St} {j : Nat} {want cb : Bool} (neg : Bool) (X Y : List Value) {r : Bool} (hg : o.guard = some (j, want)) (hb : guardB ops C.t j want = some cb) (hop : o.op = .binOp (eqOp neg) t y z t')
    (hob : AllP (stripObs C.t j want cb (slotsOf o.op.operands.toList)))
    (hy : evG C.t j want (slotsOf o.op.operands.toList) y = .v (.agg (X.map .k))) (hz : evG C.t j want (slotsOf o.op.operands.toList) z = .v (.agg (Y.map .k))) (hd : dstOk E.N o.dst = true)
    (hc : CmpV P t X Y r) : Steps P E ops o C (.grd j want cb (.c (.k (.bool (negR neg r))))) [] := by
  intro st hle ρ a w hs Kc Q hk
  have hs' := hs.weakT hle.t
  have hw := wanted_cond (ops := ops) hs' hg hb
  rw [hw]
  cases hcb : cb with
  | true =>
    subst hcb
    rw [if_pos rfl]
    have hev := fun y => evG_rep hs' hob rfl y
    have e1 : a.eval y = .agg X.toArray := by have := hev y; rw [hy] at this; rw [← map_k_conc ρ]; exact this.2
    have e2 : a.eval z = .agg Y.toArray := by have := hev z; rw [hz] at this; rw [← map_k_conc ρ]; exact this.2
    refine .inl ?_
    exact Snd.go hs (dstOk_lt hd) (tv := .grd j want true (.c (.k (.bool (negR neg r))))) (Snd.here hs.mem (v := .bool (negR neg r)) (exec_structEqV neg hop hc e1 e2 w) ⟨fun _ => ⟨trivial, rfl⟩, fun hf => by cases hf⟩) fun ρ' a' w' hs'' => hk ρ' a' w' hs''
  | false =>
    subst hcb
    rw [if_neg (by simp)]
    exact hk ρ _ w (hs.putT (dstOk_lt hd) ⟨fun hf => (by cases hf), fun _ => rfl⟩)
theorem GO.structEqV {ops : Array Oper} {rest : List Oper} {o : Oper} {t t' : TypeId} {y z : Operand} {tt : Nat → TV} {m : Mem} (neg : Bool) (X Y : List Value) (r : Bool) (hc : CmpV P t X Y r) (hg : o.guard = none) (hop : o.op = .binOp (eqOp neg) t y z t') (hy : evT tt y = .v (.agg (X.map .k))) (hz : evT tt z = .v (.agg (Y.map .k))) (hd : dstOk E.N o.dst = true)
    (k : GO P E ops K rest ⟨Sx.putT tt o.dst (.v (.c (.k (.bool (negR neg r))))), m⟩) : GO P E ops K (o :: rest) ⟨tt, m⟩ :=
  GO.steps (Steps.structEqV (C := ⟨tt, m⟩) neg X Y hg hop hy hz hd hc) k
theorem GD.structEqGV {l : List Oper} {cls : List Nat} {X0 : List (Nat × Nat)} {base : St} {recs : List DR} {o : Oper} {rest : List Oper} {tt : Nat → TV} {m : Mem} {t t' : TypeId} {y z : Operand} {j : Nat} {want cb : Bool} (neg : Bool) (X Y : List Value) (r : Bool) (hc : CmpV P t X Y r) (i : Nat) (hi : recs.length = i) (hg : o.guard = some (j, want)) (hb : guardB l.toArray (canF l cls X0 base i recs).t j want = some cb) (hop : o.op = .binOp (eqOp neg) t y z t')
    (hob : AllP (stripObs (canF l cls X0 base i recs).t j want cb (slotsOf o.op.operands.toList)))
    (hy : evG (canF l cls X0 base i recs).t j want (slotsOf o.op.operands.toList) y = .v (.agg (X.map .k))) (hz : evG (canF l cls X0 base i recs).t j want (slotsOf o.op.operands.toList) z = .v (.agg (Y.map .k))) (hd : dstOk E.N o.dst = true)
    (k : GD P E K l cls X0 base (⟨o, .grd j want cb (.c (.k (.bool (negR neg r)))), []⟩ :: recs) rest (Sx.putT tt o.dst (.grd j want cb (.c (.k (.bool (negR neg r)))))) m) : GD P E K l cls X0 base recs (o :: rest) tt m := by
  rw [canF_eq hi] at hb hob hy hz
  exact GD.step (Steps.structEqGV neg X Y hg hb hop hob hy hz hd hc) rfl k
end
end Go.Sx
/- The symbolic executor, part AK: structs that hold a row of their own. Generic over P. -/
set_option linter.unusedVariables false
set_option linter.unusedSimpArgs false
namespace Go.Sx
open Go.RowKit
/-- A call answers with a struct of a row of its own and a value. -/
def OwnPair (w w' : World) (e : Ending) (ty : TypeId) (n sz : Nat) (el : Nat → List Value) (v : Value) : Prop := ∃ b c, e = .returned (.agg #[.slice (some ⟨b, 0, none⟩) n c, v]) ∧ n ≤ c ∧ w.heap.size ≤ b ∧ OwnAt w' b ty n sz el 0
section
variable {P : Program} {E : Env} {K : Exit → St → Prop} {T : Tab}
theorem Steps.callOwnPair {ops : Array Oper} {o : Oper} {c : Call} {f : FuncId} {avs : List AV} {caps : List Cap} {C : St} (x : Nat) (ty : TypeId) (n sz : Nat) (el : Nat → List Value) (v : Value) (hg : o.guard = none) (hop : o.op = .call c) (he : callE C.t c = .mk f avs caps) (hd : dstOk E.N o.dst = true) (hx : C.m x = none) (hx2 : C.m (x + 50) = none) (hxb : Nat.blt (x + 50) 1000 = true)
    (hcf : ∀ (args : Array Value) (w : World), (callFunc f args).run P w = .ok (.enter f args) w)
    (hc : ∀ m, LeM C.m m → ∀ ρ w, SatM E ρ m w → (∀ v ∈ avs, v.ok ρ m) → Calls P f (avs.map (AV.conc ρ) ++ caps.map (Cap.conc ρ)).toArray w fun e w' => OwnPair w w' e ty n sz el v ∧ Below w.heap.size w w') :
    Steps P E ops o C (.v (.agg [.row x n E.w0.heap.size, .k v])) (msO x ty n sz el) := by
  intro st hle ρ a w hs Kc Q hk
  have hs' := hs.weakT hle.t
  obtain ⟨hr, hok, hok2⟩ := call_run hs' hop he hcf
  rw [if_pos (by simp [Region.wanted, hg])]
  refine .inl ?_
  unfold Oper.wp
  rw [hr]
  refine (hc st.m hle.m ρ w hs.mem hok).mono ?_
  rintro e w' ⟨⟨b, cp, rfl, h1, h2, h3⟩, hb⟩
  have n1 : st.m x = none := by
    rw [hle.n x (by simp only [msO, mget]; cases Nat.beq x (x + 50) <;> simp)]
    exact hx
  have n2 : st.m (x + 50) = none := by
    rw [hle.n (x + 50) (by simp [msO, mget])]
    exact hx2
  obtain ⟨ρ', k1, k2, k3, k4⟩ := hs.mem.addOwnRow hb n1 n2 hxb h2 h3 h1
  refine hk ρ' _ w' ?_
  rw [upm_msO]
  refine (hs.move k2 (fun y hy => isSome_up y (isSome_up y hy)) k1).putT (dstOk_lt hd) (tv := .v (.agg [.row x n E.w0.heap.size, .k v])) ⟨fun q hq => ?_, ?_⟩
  · simp only [List.mem_cons, List.not_mem_nil, or_false] at hq
    rcases hq with rfl | rfl
    · exact k3
    · trivial
  · simp only [AV.conc, List.map_cons, List.map_nil, k4]
    rfl
theorem GO.callOwnPair {ops : Array Oper} {rest : List Oper} {o : Oper} {c : Call} {f : FuncId} {avs : List AV} {caps : List Cap} {t : Nat → TV} {m : Mem} (x : Nat) (ty : TypeId) (n sz : Nat) (el : Nat → List Value) (v : Value) (hg : o.guard = none) (hop : o.op = .call c) (he : callE t c = .mk f avs caps) (hd : dstOk E.N o.dst = true) (hx : m x = none) (hx2 : m (x + 50) = none) (hxb : Nat.blt (x + 50) 1000 = true)
    (hcf : ∀ (args : Array Value) (w : World), (callFunc f args).run P w = .ok (.enter f args) w)
    (hc : ∀ m', LeM m m' → ∀ ρ w, SatM E ρ m' w → (∀ v ∈ avs, v.ok ρ m') → Calls P f (avs.map (AV.conc ρ) ++ caps.map (Cap.conc ρ)).toArray w fun e w' => OwnPair w w' e ty n sz el v ∧ Below w.heap.size w w')
    (k : GO P E ops K rest ⟨Sx.putT t o.dst (.v (.agg [.row x n E.w0.heap.size, .k v])), rowMo m x ty n sz el⟩) : GO P E ops K (o :: rest) ⟨t, m⟩ :=
  GO.steps (Steps.callOwnPair (C := ⟨t, m⟩) x ty n sz el v hg hop he hd hx hx2 hxb hcf hc) (by rw [upm_msO]; exact k)
theorem GO.callTurnR {ops : Array Oper} {rest : List Oper} {o : Oper} {c : Call} {f : FuncId} {avs : List AV} {caps : List Cap} {t : Nat → TV} {m : Mem} (x : Nat) (ty : TypeId) (n n' sz g : Nat) (el el' : Nat → List Value) (hg : o.guard = none) (hop : o.op = .call c) (he : callE t c = .mk f avs caps) (hd : dstOk E.N o.dst = true) (hx : m x = some (.arr ty sz n el 0)) (hin : .c (.row x n g) ∈ avs) (hn : n' ≤ n)
    (hcf : ∀ (args : Array Value) (w : World), (callFunc f args).run P w = .ok (.enter f args) w)
    (hc : ∀ m', LeM m m' → ∀ ρ w, SatM E ρ m' w → (∀ v ∈ avs, v.ok ρ m') → Calls P f (avs.map (AV.conc ρ) ++ caps.map (Cap.conc ρ)).toArray w fun e w' => e = .returned (AC.conc ρ (.row x n' g)) ∧ Fr w [(ρ x).1] w' ∧ OwnAt w' (ρ x).1 ty n' sz el' 0)
    (k : GO P E ops K rest ⟨Sx.putT t o.dst (.v (.c (.row x n' g))), up m x (some (.arr ty sz n' el' 0))⟩) : GO P E ops K (o :: rest) ⟨t, m⟩ :=
  GO.steps (Steps.callTurnR (C := ⟨t, m⟩) x ty n n' sz g el el' hg hop he hd hx hin hn hcf hc) (by rw [upm_one]; exact k)
theorem Steps.appendOwnNew {ops : Array Oper} {o : Oper} {s y : Operand} {t e size bytes d x sz' q n c : Nat} {z : Value} {A : Option Addr} {C : St} (el : Nat → List Value) (hp : ApT P t e size bytes z) (hg : o.guard = none) (hop : o.op = .call { callee := .builtin .append, args := #[s, y], argTypes := #[t, t] }) (hd : o.dst = some d) (hdN : Nat.blt d E.N = true) (hdb : Nat.blt (d + 50) 1000 = true)
    (hx : C.m d = none) (hx2 : C.m (d + 50) = none) (hs : evT C.t s = .v (.c (.slc x 0 sz' 0 0))) (hy : evT C.t y = .v (.c (.inp q A n c))) (hq : C.m q = some (.ro size n el)) (h0 : 0 < n) (hlen : ∀ k, k < n → (el k).length = size) (h1 : ∀ i, i < n → ∀ u ∈ el i, u.oneCell' = true) (b1 : n ≤ maxLen) (b2 : n * bytes ≤ 140737488355328) :
    Steps P E ops o C (.v (.c (.row d n E.w0.heap.size))) (msO d e n size el) := by
  intro st hle ρ a w hsat Kc Q hk
  have hs' := hsat.weakT hle.t
  rw [if_pos (by simp [Region.wanted, hg])]
  have n1 : st.m d = none := by rw [hle.n d (by simp only [msO, mget]; cases Nat.beq d (d + 50) <;> simp)]; exact hx
  have n2 : st.m (d + 50) = none := by rw [hle.n (d + 50) (by simp [msO, mget])]; exact hx2
  have hq2 : st.m q = some (.ro size n el) := by
    rcases hle.m q with h | h
    · rw [hq] at h; cases h
    · exact h.trans hq
  have hs2 := hs'.eval s
  rw [show (St.mk C.t st.m).ev s = _ from hs] at hs2
  obtain ⟨AA, hAA⟩ : ∃ AA : Addr, AA = ⟨(ρ x).1, (ρ x).2 + 0 * sz', none⟩ := ⟨_, rfl⟩
  have es : a.eval s = .slice (some AA) 0 0 := by rw [hAA]; exact hs2.2
  have hy2 := hs'.eval y
  rw [show (St.mk C.t st.m).ev y = _ from hy] at hy2
  have ey : a.eval y = .slice A n c := hy2.2
  have hr : RdRow w A n size el := hsat.mem.rd (cap := c) hq2 hy2.1 (Nat.le_refl _)
  rcases append_new (ty := o.type) hp (A := some AA) (c := c) hr h1 b1 b2 with ⟨hz, _⟩ | ⟨_, v', w', hrun, r1, r2⟩
  · omega
  · have hb : Below w.heap.size w w' := ⟨r2.os, r2.tape, r2.output, r2.size, fun k hk => r2.block k hk (by simp)⟩
    rcases r1.2 with ⟨_, hz⟩ | ⟨g, cp, cur, rfl, hbg, hgg, hnc, hcm, hcs, htake⟩
    · omega
    have hex : (execOp a.eval o).run P w = .ok (.value (.slice (some ⟨g, 0, none⟩) n cp)) w' := by
      simp [execOp, hop, resolve, invoke, builtin, es, ey, hrun, Result.andThen]
    have hown : OwnAt w' g e n size el 0 := ⟨cur, hgg, by rw [hcs]; have := Nat.mul_le_mul_right size hnc; omega, fun i hi => ⟨hlen i hi, fun j hj => by
      rw [← flatE_at hlen hi hj, ← htake, List.getElem?_take, if_pos (by
        have := Nat.mul_le_mul_right size (show i + 1 ≤ n from hi)
        rw [Nat.add_mul] at this
        omega)]
      simp⟩⟩
    obtain ⟨ρ', k1, k2, k3, k4⟩ := hsat.mem.addOwnRow hb n1 n2 hdb hbg hown hnc
    refine .inl ?_
    unfold Oper.wp
    rw [hex]
    refine hk ρ' _ w' ?_
    rw [upm_msO]
    exact (hsat.move k2 (fun y hy => isSome_up y (isSome_up y hy)) k1).putT (fun q hq => by rw [hd] at hq; injection hq with hq; subst hq; simpa [Nat.blt_eq] using hdN) (tv := .v (.c (.row d n E.w0.heap.size))) ⟨k3, k4.symm⟩
theorem GD.appendOwnNew {l : List Oper} {cls : List Nat} {X : List (Nat × Nat)} {base : St} {recs : List DR} {rest : List Oper} {tt : Nat → TV} {m : Mem} {o : Oper} {s y : Operand} {t e size bytes d x sz' q n c : Nat} {z : Value} {A : Option Addr} (el : Nat → List Value) (i : Nat) (hi : recs.length = i) (hp : ApT P t e size bytes z) (hg : o.guard = none) (hop : o.op = .call { callee := .builtin .append, args := #[s, y], argTypes := #[t, t] }) (hd : o.dst = some d) (hdN : Nat.blt d E.N = true) (hdb : Nat.blt (d + 50) 1000 = true)
    (hx : (canF l cls X base i recs).m d = none) (hx2 : (canF l cls X base i recs).m (d + 50) = none) (hs : evT (canF l cls X base i recs).t s = .v (.c (.slc x 0 sz' 0 0))) (hy : evT (canF l cls X base i recs).t y = .v (.c (.inp q A n c))) (hq : (canF l cls X base i recs).m q = some (.ro size n el)) (hw : Wok X i o (msO d e n size el) = true) (h0 : 0 < n) (hlen : ∀ k, k < n → (el k).length = size) (h1 : ∀ i, i < n → ∀ u ∈ el i, u.oneCell' = true) (b1 : n ≤ maxLen) (b2 : n * bytes ≤ 140737488355328)
    (k : GD P E K l cls X base (⟨o, .v (.c (.row d n E.w0.heap.size)), msO d e n size el⟩ :: recs) rest (Sx.putT tt o.dst (.v (.c (.row d n E.w0.heap.size)))) (upm m (msO d e n size el))) : GD P E K l cls X base recs (o :: rest) tt m := by
  rw [canF_eq hi] at hx hx2 hs hy hq
  exact GD.step (Steps.appendOwnNew el hp hg hop hd hdN hdb hx hx2 hs hy hq h0 hlen h1 b1 b2) (by rw [hi]; exact hw) k
def endOwnP (T : Tab) (fn : Func) (ty : TypeId) (n sz : Nat) (el : Nat → List Value) (v : Value) : Exit → St → Prop := fun e st => (e = .ret ∨ e = .normal) ∧ ∃ r, fn.results.toList = [r] ∧ ∃ x g el2 room, resOne T st r = .v (.agg [.row x n g, .k v]) ∧ st.m x = some (.arr ty sz n el2 room) ∧ ∀ i, i < n → el2 i = el i
theorem enterOwnP (hT : Tab.fine P T) {f : FuncId} {fn : Func} {c : Code} {args : Array Value} {w : World} (ty : TypeId) (n sz : Nat) (el : Nat → List Value) (v : Value) (h0 : 0 < n) (hf : P.funcs[f]? = some fn) (hb : fn.body = some c) (N : Nat) (hN : fn.ntmps = N) (avs : List AV) (l : List Inp)
    (hargs : args = (avs.map (AV.conc (inpsV l))).toArray) (hl : Nat.ble avs.length N = true) (hr : allRd w l) (ha : allInps l avs)
    (h : G P ⟨w, [], N, none, []⟩ (endOwnP T fn ty n sz el v) c ⟨argsT avs, lkM (inpsM l)⟩) : Calls P f args w fun e w' => OwnPair w w' e ty n sz el v ∧ Below w.heap.size w w' := by
  subst hN
  refine enter rfl (E := ⟨w, [], fn.ntmps, none, []⟩) hf hb (inpsV l) (Sat.init hr ha hargs (Nat.le_of_ble_eq_true hl)) (h.mono fun e st hk => ⟨hk.1, fun ρ a w' hs => ?_⟩)
  obtain ⟨r, h1, x, g, el2, room, h2, h4, h5⟩ := hk.2
  obtain ⟨h6, h7⟩ := resOne_run hT hs h2
  obtain ⟨k1, k2, k3⟩ := hs.mem.ok x _ h4
  have k2 : w.heap.size ≤ (ρ x).1 := by
    rcases k2 with h | h
    · exact h
    · cases h
  obtain ⟨cs, q1, q2, q3⟩ := k3
  have hrow : AC.ok ρ st.m (.row x n g) := h7 _ List.mem_cons_self
  have had := hs.mem.rowAd h4 hrow h0
  refine ⟨_, results_one h1 h6, ⟨(ρ x).1, (ρ (x + 50)).1, ?_, hrow.2.2.2, k2, cs, q1, by omega, fun i hi => by rw [← h5 i hi]; exact q3 i hi⟩, hs.mem.fr.toBelow⟩
  simp [AV.conc, AC.conc, had]
theorem endOwnP.ret {fn : Func} {ty n sz x g room : Nat} {el el2 : Nat → List Value} {v : Value} {st : St} {r : ResultVar} (h : fn.results.toList = [r]) (h1 : resOne T st r = .v (.agg [.row x n g, .k v])) (h3 : st.m x = some (.arr ty sz n el2 room)) (h4 : ∀ i, i < n → el2 i = el i) : endOwnP T fn ty n sz el v .ret st := ⟨.inl rfl, r, h, x, g, el2, room, h1, h3, h4⟩
end
end Go.Sx
/- The symbolic executor, part AL: great arrays of one-cell elements, read and written whole. Generic over P. -/
set_option linter.unusedVariables false
set_option linter.unusedSimpArgs false
namespace Go.Sx
open Go.RowKit
def bigL (N : Nat) (f : Nat → Value) : List Value := (List.range N).map f
def bigA (N : Nat) (f : Nat → Value) : Value := .agg (bigL N f).toArray
theorem bigL_len (N : Nat) (f : Nat → Value) : (bigL N f).length = N := by simp [bigL]
theorem bigL_get (N : Nat) (f : Nat → Value) {i : Nat} (h : i < N) : (bigL N f)[i]? = some (f i) := by simp [bigL, h]
structure BigT (P : Program) (T : Tab) (t N : Nat) : Prop where
  ok : ∃ d e, T t = some d ∧ d.kind = .array N e ∧ d.size = N
section
variable {P : Program} {E : Env} {K : Exit → St → Prop} {T : Tab}
theorem run_loadBig (hT : Tab.fine P T) {t N : Nat} (hb : BigT P T t N) {ρ : Val} {m : Mem} {w : World} (hm : SatM E ρ m w) {x room : Nat} {el : Nat → List Value} (f : Nat → Value) (hx : m x = some (.arr t 1 N el room)) (hf : ∀ i, i < N → el i = [f i]) :
    (ρ x).2 = 0 ∧ (Instr.loadAt t (.pointer (some ⟨(ρ x).1, 0, none⟩))).run P w = .ok (bigA N f) w := by
  obtain ⟨d, e, h1, h2, h3⟩ := hb.ok
  obtain ⟨k1, _, a, ha, hs, he⟩ := hm.ok x _ hx
  refine ⟨k1, ?_⟩
  have := run_load_list (hT.ok t d h1) (w := w) (b := (ρ x).1) (o := 0) (cs := bigL N f) (by rw [bigL_len, h3]) fun j v hj => by
    have hlt : j < N := by have := (List.getElem?_eq_some_iff.1 hj).1; rw [bigL_len] at this; exact this
    rw [bigL_get N f hlt] at hj
    rw [Nat.zero_add, cell_of_heap ha]
    have h4 := (he j hlt).2 0 (by omega)
    rw [Nat.mul_one, Nat.add_zero, hf j hlt] at h4
    rw [h4, ← hj]
    rfl
  rw [this, h2]
  rfl
theorem GO.loadBig (hT : Tab.fine P T) {ops : Array Oper} {rest : List Oper} {o : Oper} {t N x room : Nat} {p : Operand} {t0 : Nat → TV} {m : Mem} {el : Nat → List Value} (f : Nat → Value) (hb : BigT P T t N) (hg : o.guard = none) (hop : o.op = .load t p) (hd : dstOk E.N o.dst = true) (hp : evT t0 p = .v (.c (.ptr x 0 1 0))) (hx : m x = some (.arr t 1 N el room)) (hf : ∀ i, i < N → el i = [f i])
    (k : GO P E ops K rest ⟨Sx.putT t0 o.dst (.v (.c (.k (bigA N f)))), m⟩) : GO P E ops K (o :: rest) ⟨t0, m⟩ := by
  intro ρ a w hs
  obtain ⟨h0, hr⟩ := run_loadBig hT hb hs.mem f hx hf
  have ep : a.eval p = .pointer (some ⟨(ρ x).1, 0, none⟩) := by
    have := hs.eval p
    rw [show (St.mk t0 m).ev p = _ from hp] at this
    have := this.2
    simpa [AV.conc, AC.conc, h0] using this
  have hrun : (execOp a.eval o).run P w = .ok (.value (bigA N f)) w := by
    simp only [execOp, hop, ep, Sem.run_bind, hr, Result.andThen_ok, Sem.run_pure]
  unfold wpL
  rw [if_pos (by simp [Region.wanted, hg])]
  refine .inl ?_
  exact Snd.go hs (dstOk_lt hd) (tv := .v (.c (.k (bigA N f)))) (Snd.here hs.mem hrun ⟨trivial, rfl⟩) fun ρ' a' w' hs'' => k ρ' a' w' hs''
theorem GO.storeBig (hT : Tab.fine P T) {ops : Array Oper} {rest : List Oper} {o : Oper} {t N x room : Nat} {p v : Operand} {t0 : Nat → TV} {m : Mem} {el : Nat → List Value} (f : Nat → Value) (hb : BigT P T t N) (hg : o.guard = none) (hop : o.op = .store t p v) (hd : o.dst = none) (hp : evT t0 p = .v (.c (.ptr x 0 1 0))) (hv : evT t0 v = .v (.c (.k (bigA N f)))) (hx : m x = some (.arr t 1 N el room)) (h1 : ∀ i, i < N → (f i).oneCell' = true)
    (k : GO P E ops K rest ⟨t0, up m x (some (.arr t 1 N (fun i => [f i]) room))⟩) : GO P E ops K (o :: rest) ⟨t0, m⟩ := by
  intro ρ a w hs
  obtain ⟨d, e, q1, q2, q3⟩ := hb.ok
  obtain ⟨k1, k2, cur, ha, hsz, he⟩ := hs.mem.ok x _ hx
  have ep : a.eval p = .pointer (some ⟨(ρ x).1, 0, none⟩) := by
    have := hs.eval p
    rw [show (St.mk t0 m).ev p = _ from hp] at this
    have := this.2
    simpa [AV.conc, AC.conc, k1] using this
  have ev : a.eval v = bigA N f := by
    have := hs.eval v
    rw [show (St.mk t0 m).ev v = _ from hv] at this
    exact this.2
  have hcl : (bigA N f).cells.toList = bigL N f := by simp [bigA, Value.cells]
  have hcs : (bigA N f).cells.size = N := by rw [← Array.length_toList, hcl, bigL_len]
  rw [Nat.mul_one] at hsz
  have hst := run_store_list (hT.ok t d q1) (b := (ρ x).1) (o := 0) (v := bigA N f) ha (by rw [hcs, q3]) (by rw [hcs]; omega) (fun u hu => by
    rw [hcl] at hu
    simp only [bigL, List.mem_map, List.mem_range] at hu
    obtain ⟨i, hi, rfl⟩ := hu
    exact h1 i hi)
  rw [hcl, hcs] at hst
  have hrun : (execOp a.eval o).run P w = .ok .skip (w.setRow (ρ x).1 (cur.toList.take 0 ++ bigL N f ++ cur.toList.drop (0 + N)).toArray) := by
    simp only [execOp, hop, ep, ev, Sem.run_bind, hst, Result.andThen_ok, Sem.run_pure]
  have hmem := hs.mem.setArr hx (n2 := N) (room2 := room) (el2 := fun i => [f i]) (cs := (cur.toList.take 0 ++ bigL N f ++ cur.toList.drop (0 + N)).toArray) ha (by
    simp only [List.size_toArray, List.length_append, List.length_take, List.length_drop, Array.length_toList, bigL_len]
    omega) fun i hi => ⟨rfl, fun j hj => by
      have : j = 0 := by omega
      subst this
      simp only [List.take_zero, List.nil_append, List.getElem?_toArray, Nat.mul_one, Nat.add_zero]
      rw [List.getElem?_append_left (by rw [bigL_len]; exact hi), bigL_get N f hi]
      rfl⟩
  unfold wpL
  rw [if_pos (by simp [Region.wanted, hg])]
  refine .inl ?_
  unfold Oper.wp
  rw [hrun]
  refine k ρ _ _ ?_
  have := (hs.move hmem (fun q hq => isSome_up q hq) fun _ _ => rfl).putT (d := o.dst) (fun q hq => by rw [hd] at hq; cases hq) (tv := .unk) (v := undef) trivial
  rw [hd] at this ⊢
  exact this
/-- A call that answers with a great array: the temporary holds it whole. -/
theorem GO.callBig {ops : Array Oper} {rest : List Oper} {st : St} {o : Oper} {c : Call} {f : FuncId} {avs : List AV} {caps : List Cap} (N : Nat) (g : Nat → Value) (hg : o.guard = none) (hop : o.op = .call c) (he : callE st.t c = .mk f avs caps) (hd : dstOk E.N o.dst = true)
    (hcf : ∀ (args : Array Value) (w : World), (callFunc f args).run P w = .ok (.enter f args) w)
    (hc : ∀ ρ w, SatM E ρ st.m w → (∀ v ∈ avs, v.ok ρ st.m) → Calls P f (avs.map (AV.conc ρ) ++ caps.map (Cap.conc ρ)).toArray w fun e w' => e = .returned (bigA N g) ∧ Below w.heap.size w w')
    (k : GO P E ops K rest ⟨Sx.putT st.t o.dst (.v (.c (.k (bigA N g)))), st.m⟩) : GO P E ops K (o :: rest) st := by
  refine GO.call hg hop he hcf fun ρ a w hs hok _ => (hc ρ w hs.mem hok).mono ?_
  rintro e w' ⟨rfl, hb⟩
  exact ⟨_, ρ, _, rfl, (hs.below hb).putT (dstOk_lt hd) (tv := .v (.c (.k (bigA N g)))) ⟨trivial, rfl⟩, k⟩
/-- A function that answers with a great array, which it holds in a variable of its own. -/
def endBig (fn : Func) (t N : Nat) (f : Nat → Value) : Exit → St → Prop := fun e st => (e = .ret ∨ e = .normal) ∧ ∃ b x el room, fn.results.toList = [.cell b t] ∧ st.t b = .v (.c (.ptr x 0 1 0)) ∧ st.m x = some (.arr t 1 N el room) ∧ ∀ i, i < N → el i = [f i]
theorem enterBig (hT : Tab.fine P T) {g : FuncId} {fn : Func} {c : Code} {args : Array Value} {w : World} (t N : Nat) (f : Nat → Value) (hb : BigT P T t N) (hf : P.funcs[g]? = some fn) (hbd : fn.body = some c) (M : Nat) (hM : fn.ntmps = M) (avs : List AV) (l : List Inp)
    (hargs : args = (avs.map (AV.conc (inpsV l))).toArray) (hl : Nat.ble avs.length M = true) (hr : allRd w l) (ha : allInps l avs)
    (h : G P ⟨w, [], M, none, []⟩ (endBig fn t N f) c ⟨argsT avs, lkM (inpsM l)⟩) : Calls P g args w fun e w' => e = .returned (bigA N f) ∧ Below w.heap.size w w' := by
  subst hM
  refine enter rfl (E := ⟨w, [], fn.ntmps, none, []⟩) hf hbd (inpsV l) (Sat.init hr ha hargs (Nat.le_of_ble_eq_true hl)) (h.mono fun e st hk => ⟨hk.1, fun ρ a w' hs => ?_⟩)
  obtain ⟨b, x, el, room, h1, h2, h3, h4⟩ := hk.2
  obtain ⟨h0, hrun⟩ := run_loadBig hT hb hs.mem f h3 h4
  have hbv := hs.tm b
  rw [h2] at hbv
  have eb : a.tmps.getD b undef = .pointer (some ⟨(ρ x).1, 0, none⟩) := by
    have := hbv.2
    simpa [AV.conc, AC.conc, h0] using this
  refine ⟨_, results_one h1 ?_, rfl, hs.mem.fr.toBelow⟩
  simp only [Instr.loadAt, Instr.sureAddr, Sem.run_bind, Sem.run_pure, Result.andThen_ok] at hrun
  simp only [resSem, eb, asAddr, Sem.run_bind, Sem.run_pure, Result.andThen_ok, hrun]
end
end Go.Sx
/- The symbolic executor, part AM: a row that a call has made gets another name; a nil list gets a name. Generic over P. -/
set_option linter.unusedVariables false
set_option linter.unusedSimpArgs false
namespace Go.Sx
open Go.RowKit
section
variable {P : Program} {E : Env} {K : Exit → St → Prop} {T : Tab}
theorem SatM.addRow2 {ρ : Val} {m : Mem} {w' : World} {g0 : Nat} (h : SatM E ρ m w') {x n sz c : Nat} (hx : m x = none) (hx2 : m (x + 50) = none) (hxb : Nat.blt (x + 50) 1000 = true) {A : Option Addr} {el : Nat → List Value}
    (hr : 0 < n → ∃ b o, A = some ⟨b, o, none⟩ ∧ g0 ≤ b ∧ b < w'.heap.size ∧ (∀ y k, m y = some k → k.own → (ρ y).1 ≠ b) ∧ ∀ i, i < n → (el i).length = sz ∧ ∀ j, j < sz → w'.cell? ⟨b, o + (i * sz + j), none⟩ = (el i)[j]?) (hsp : ∀ a, A = some a → a.spot = none) (hcn : n ≤ c) :
    ∃ ρ' : Val, (∀ y, (m y).isSome = true → ρ' y = ρ y) ∧ SatM E ρ' (rowM m x n sz el) w' ∧ AC.ok ρ' (rowM m x n sz el) (.row x n g0) ∧ AC.conc ρ' (.row x n g0) = .slice A n c := by
  have hxb : x + 50 < 1000 := by simpa [Nat.blt_eq] using hxb
  obtain ⟨p, hp0⟩ : ∃ p : Nat × Nat, p = (A.map fun a => (a.block, a.off)).getD (0, 0) := ⟨_, rfl⟩
  obtain ⟨q, hq0⟩ : ∃ q : Nat × Nat, q = (c, (A.map fun _ => 1).getD 0) := ⟨_, rfl⟩
  obtain ⟨ρ', hρ'⟩ : ∃ ρ' : Val, ρ' = up (up ρ x p) (x + 50) q := ⟨_, rfl⟩
  have e1 : ρ' x = p := by rw [hρ', up_other _ _ (by omega), up_same]
  have e2 : ρ' (x + 50) = q := by rw [hρ', up_same]
  have e3 : ∀ y, y ≠ x → y ≠ x + 50 → ρ' y = ρ y := fun y h1 h2 => by rw [hρ', up_other _ _ h2, up_other _ _ h1]
  have hρ : ∀ y, (m y).isSome = true → ρ' y = ρ y := fun y hy => e3 y (fun e => by subst e; simp [hx] at hy) (fun e => by subst e; simp [hx2] at hy)
  have hm : ∀ y b, rowM m x n sz el y = some b → (y = x + 50 ∧ b = .ro 0 0 fun _ => []) ∨ (y = x ∧ b = .ro sz n el) ∨ (y ≠ x ∧ y ≠ x + 50 ∧ m y = some b) := by
    intro y b hy
    unfold rowM at hy
    by_cases h1 : y = x + 50
    · subst h1
      rw [up_same] at hy
      injection hy with hy
      exact .inl ⟨rfl, hy.symm⟩
    · rw [up_other _ _ h1] at hy
      by_cases h2 : y = x
      · subst h2
        rw [up_same] at hy
        injection hy with hy
        exact .inr (.inl ⟨rfl, hy.symm⟩)
      · rw [up_other _ _ h2] at hy
        exact .inr (.inr ⟨h2, h1, hy⟩)
  have hp : 0 < n → g0 ≤ p.1 ∧ p.1 < w'.heap.size ∧ A = some ⟨p.1, p.2, none⟩ ∧ (∀ y k, m y = some k → k.own → (ρ y).1 ≠ p.1) ∧ ∀ i, i < n → (el i).length = sz ∧ ∀ j, j < sz → w'.cell? ⟨p.1, p.2 + (i * sz + j), none⟩ = (el i)[j]? := by
    intro h0
    obtain ⟨b, o, rfl, h1, h2, hn, h3⟩ := hr h0
    subst hp0
    exact ⟨h1, h2, rfl, hn, h3⟩
  have hsome : ∀ y, (m y).isSome = true → (rowM m x n sz el y).isSome = true := fun y hy => isSome_rowM y hy
  refine ⟨ρ', hρ, ⟨h.fr, fun r hr => ?_, fun y b hy => ?_, fun y z b d hy hz hb hd hne => ?_⟩, ⟨?_, ?_, fun h0 => ?_, ?_⟩, ?_⟩
  · have := h.bo r hr
    rw [e3 _ (by omega) (by omega)]; exact this
  · rcases hm y b hy with ⟨rfl, rfl⟩ | ⟨rfl, rfl⟩ | ⟨h1, h2, h3⟩
    · intro h0; omega
    · intro h0
      obtain ⟨_, h2, _, _, h3⟩ := hp h0
      rw [e1]
      exact ⟨h2, h3⟩
    · have hk := h.ok y b h3
      have ey : ρ' y = ρ y := e3 y h1 h2
      cases b with
      | var ty cells =>
        have hcm : cells.map (AC.conc ρ') = cells.map (AC.conc ρ) := List.map_congr_left fun c hm => AC.conc_mono hρ (hk.2.2.2 c hm)
        exact ⟨by rw [ey]; exact hk.1, by rw [ey]; exact hk.2.1, by rw [ey, hcm]; exact hk.2.2.1, fun c hc => AC.ok_mono hsome hρ (hk.2.2.2 c hc)⟩
      | arr ty sz n el room =>
        obtain ⟨k1, k2, a, ha, hs, he⟩ := hk
        exact ⟨by rw [ey]; exact k1, by rw [ey]; exact k2, a, by rw [ey]; exact ha, hs, he⟩
      | obj Q =>
        obtain ⟨k1, k2, a, ha, hs⟩ := hk
        exact ⟨by rw [ey]; exact k1, by rw [ey]; exact k2, a, by rw [ey]; exact ha, hs⟩
      | ro sz n el =>
        intro hn
        rw [ey]
        exact hk hn
      | say S R => exact hk
  · rcases hm y b hy with ⟨rfl, rfl⟩ | ⟨rfl, rfl⟩ | ⟨h1, h2, h3⟩
    · exact hb.elim
    · exact hb.elim
    · rcases hm z d hz with ⟨rfl, rfl⟩ | ⟨rfl, rfl⟩ | ⟨k1, k2, k3⟩
      · exact absurd hd (Nat.lt_irrefl 0)
      · have := (hp hd).2.2.2.1 y b h3 hb
        rw [e1, e3 y h1 h2]
        exact this
      · rw [e3 y h1 h2, e3 z k1 k2]
        exact h.ne y z b d h3 k3 hb hd hne
  · unfold rowM
    rw [up_other _ _ (by omega), up_same]; rfl
  · unfold rowM
    rw [up_same]; rfl
  · obtain ⟨h1, h2, h3, _⟩ := hp h0
    refine ⟨?_, by rw [e1]; exact h1⟩
    rw [e2, hq0, h3]
    exact Nat.one_ne_zero
  · rw [e2, hq0]
    exact hcn
  · simp only [AC.conc, _root_.Go.Sx.rowAd, e1, e2, hq0, hp0]
    cases A with
    | none => rfl
    | some a =>
      have := hsp a rfl
      obtain ⟨b, o, s⟩ := a
      simp only at this
      subst this
      rfl
theorem G.named {c : Code} {t : Nat → TV} {m : Mem} {x d n sz g : Nat} {el : Nat → List Value} {tv : TV} (hx : m x = none) (hx2 : m (x + 50) = none) (hxb : Nat.blt (x + 50) 1000 = true) (ht : t d = tv)
    (h : ∀ ρ w, SatM E ρ m w → ∀ u, tv.rep ρ m u → ∃ A cp, u = .slice A n cp ∧ n ≤ cp ∧ (∀ a, A = some a → a.spot = none) ∧ (0 < n → ∃ b o, A = some ⟨b, o, none⟩ ∧ g ≤ b ∧ b < w.heap.size ∧ (∀ y k, m y = some k → k.own → (ρ y).1 ≠ b) ∧ ∀ i, i < n → (el i).length = sz ∧ ∀ j, j < sz → w.cell? ⟨b, o + (i * sz + j), none⟩ = (el i)[j]?))
    (k : G P E K c ⟨up t d (.v (.c (.row x n g))), rowM m x n sz el⟩) : G P E K c ⟨t, m⟩ := by
  intro hn ρ a w hs
  have hd := hs.tm d
  rw [show (St.mk t m).t d = tv from ht] at hd
  obtain ⟨A, cp, hu, hcn, hsp, hr⟩ := h ρ w hs.mem _ hd
  obtain ⟨ρ', h1, h2, h3, h4⟩ := hs.mem.addRow2 hx hx2 hxb hr hsp hcn
  have hmv := hs.move h2 (fun y hy => isSome_rowM y hy) h1
  refine k hn ρ' a w ⟨h2, hmv.df, hmv.sz, fun j => ?_⟩
  by_cases hj : j = d
  · subst hj
    show TV.rep ρ' _ (up t j _ j) _
    rw [up_same]
    exact ⟨h3, by rw [hu]; exact h4.symm⟩
  · show TV.rep ρ' _ (up t d _ j) _
    rw [up_other _ _ hj]
    exact hmv.tm j
/-- Another name for a row that a call has made. -/
theorem G.renRow {c : Code} {t : Nat → TV} {m : Mem} (x y d : Nat) {n sz g : Nat} {el : Nat → List Value} (hm : m x = some (.ro sz n el)) (ht : t d = .v (.c (.row x n g))) (hy : m y = none) (hy2 : m (y + 50) = none) (hyb : Nat.blt (y + 50) 1000 = true)
    (k : G P E K c ⟨up t d (.v (.c (.row y n g))), rowM m y n sz el⟩) : G P E K c ⟨t, m⟩ := by
  refine G.named hy hy2 hyb ht (fun ρ w hs u hu => ?_) k
  obtain ⟨⟨o1, o2, o3, o4⟩, rfl⟩ := hu
  refine ⟨rowAd ρ x, _, rfl, o4, fun a ha => ?_, fun h0 => ?_⟩
  · unfold rowAd at ha
    split at ha
    · cases ha
    · injection ha with ha; subst ha; rfl
  · obtain ⟨h1, h2⟩ := hs.ok x _ hm h0
    refine ⟨(ρ x).1, (ρ x).2, if_neg (o3 h0).1, (o3 h0).2, h1, fun z b hz hb => ?_, h2⟩
    exact hs.ne z x b _ hz hm hb h0 (fun e => by subst e; rw [hm] at hz; injection hz with hz; subst hz; exact hb.elim)
/-- A name for an empty list. -/
theorem G.nilRowA {c : Code} {t : Nat → TV} {m : Mem} {A0 : Option Addr} (y d sz g : Nat) (el : Nat → List Value) (hA : ∀ a, A0 = some a → a.spot = none) (ht : t d = .v (.c (.k (.slice A0 0 0)))) (hy : m y = none) (hy2 : m (y + 50) = none) (hyb : Nat.blt (y + 50) 1000 = true)
    (k : G P E K c ⟨up t d (.v (.c (.row y 0 g))), rowM m y 0 sz el⟩) : G P E K c ⟨t, m⟩ := by
  refine G.named hy hy2 hyb ht (fun ρ w hs u hu => ?_) k
  obtain ⟨_, rfl⟩ := hu
  exact ⟨A0, 0, rfl, Nat.le_refl _, hA, fun h0 => absurd h0 (Nat.lt_irrefl 0)⟩
/-- A name for nil. -/
theorem G.nilRow {c : Code} {t : Nat → TV} {m : Mem} (y d sz g : Nat) (el : Nat → List Value) (ht : t d = .v (.c (.k (.slice none 0 0)))) (hy : m y = none) (hy2 : m (y + 50) = none) (hyb : Nat.blt (y + 50) 1000 = true)
    (k : G P E K c ⟨up t d (.v (.c (.row y 0 g))), rowM m y 0 sz el⟩) : G P E K c ⟨t, m⟩ :=
  G.nilRowA y d sz g el (fun a ha => by cases ha) ht hy hy2 hyb k
end
end Go.Sx
/- The symbolic executor, part AN: a slice that lay in a row that came in gets a name. Generic over P. -/
set_option linter.unusedVariables false
set_option linter.unusedSimpArgs false
namespace Go.Sx
open Go.RowKit
section
variable {P : Program} {E : Env} {K : Exit → St → Prop} {T : Tab}
theorem SatM.addRo {ρ : Val} {m : Mem} {w' : World} (h : SatM E ρ m w') {x n sz cap : Nat} (hx : m x = none) (hxb : x < 1000) {A : Option Addr} {el : Nat → List Value}
    (hr : 0 < n → ∃ b o, A = some ⟨b, o, none⟩ ∧ b < w'.heap.size ∧ (∀ y k, m y = some k → k.own → (ρ y).1 ≠ b) ∧ ∀ i, i < n → (el i).length = sz ∧ ∀ j, j < sz → w'.cell? ⟨b, o + (i * sz + j), none⟩ = (el i)[j]?) :
    ∃ ρ' : Val, (∀ y, (m y).isSome = true → ρ' y = ρ y) ∧ SatM E ρ' (up m x (some (.ro sz n el))) w' ∧ AC.ok ρ' (up m x (some (.ro sz n el))) (.inp x A n cap) := by
  obtain ⟨p, hp0⟩ : ∃ p : Nat × Nat, p = (A.map fun a => (a.block, a.off)).getD (0, 0) := ⟨_, rfl⟩
  have hρ : ∀ y, (m y).isSome = true → up ρ x p y = ρ y := fun y hy => up_other _ _ (fun e => by subst e; simp [hx] at hy)
  have hp : 0 < n → p.1 < w'.heap.size ∧ A = some ⟨p.1, p.2, none⟩ ∧ (∀ y k, m y = some k → k.own → (ρ y).1 ≠ p.1) ∧ ∀ i, i < n → (el i).length = sz ∧ ∀ j, j < sz → w'.cell? ⟨p.1, p.2 + (i * sz + j), none⟩ = (el i)[j]? := by
    intro h0
    obtain ⟨b, o, rfl, h1, hn, h3⟩ := hr h0
    subst hp0
    exact ⟨h1, rfl, hn, h3⟩
  refine ⟨up ρ x p, hρ, ⟨h.fr, fun q hq => ?_, fun y c hy => ?_, fun y z c d hy hz hc hd hne => ?_⟩, ?_, fun h0 => ?_⟩
  · have := h.bo q hq
    rw [up_other _ _ (by omega)]; exact this
  · by_cases e : y = x
    · subst e
      rw [up_same] at hy
      injection hy with hy
      subst hy
      intro h0
      obtain ⟨h2, _, _, h3⟩ := hp h0
      rw [up_same]
      exact ⟨h2, h3⟩
    · rw [up_other _ _ e] at hy
      have hk := h.ok y c hy
      have ey : up ρ x p y = ρ y := up_other _ _ e
      cases c with
      | var ty cells =>
        have hcm : cells.map (AC.conc (up ρ x p)) = cells.map (AC.conc ρ) := List.map_congr_left fun c hm => AC.conc_mono hρ (hk.2.2.2 c hm)
        exact ⟨by rw [ey]; exact hk.1, by rw [ey]; exact hk.2.1, by rw [ey, hcm]; exact hk.2.2.1, fun c hc => AC.ok_mono (fun z hz => isSome_up z hz) hρ (hk.2.2.2 c hc)⟩
      | arr ty sz n el room =>
        obtain ⟨h1, h2, a, ha, hs, he⟩ := hk
        exact ⟨by rw [ey]; exact h1, by rw [ey]; exact h2, a, by rw [ey]; exact ha, hs, he⟩
      | obj Q =>
        obtain ⟨h1, h2, a, ha, hs⟩ := hk
        exact ⟨by rw [ey]; exact h1, by rw [ey]; exact h2, a, by rw [ey]; exact ha, hs⟩
      | ro sz n el =>
        intro hn
        rw [ey]
        exact hk hn
      | say S R => exact hk
  · by_cases e1 : y = x
    · subst e1
      rw [up_same] at hy
      injection hy with hy
      subst hy
      exact hc.elim
    · rw [up_other _ _ e1] at hy
      by_cases e2 : z = x
      · subst e2
        rw [up_same] at hz
        injection hz with hz
        subst hz
        rw [up_same, up_other _ _ e1]
        exact (hp hd).2.2.1 y c hy hc
      · rw [up_other _ _ e2] at hz
        rw [up_other _ _ e1, up_other _ _ e2]
        exact h.ne y z c d hy hz hc hd hne
  · rw [up_same]; rfl
  · rw [up_same]
    exact (hp h0).2.1
/-- What was there at the entry, and no borrowed block, lies apart from our blocks and stands. -/
theorem SatM.oldRow {ρ : Val} {m : Mem} {w : World} (h : SatM E ρ m w) {A : Option Addr} {n sz : Nat} {el : Nat → List Value} (hr : RdRow E.w0 A n sz el) (hb : 0 < n → ∀ a, A = some a → a.block ∉ E.bor.map (·.2)) :
    0 < n → ∃ b o, A = some ⟨b, o, none⟩ ∧ b < w.heap.size ∧ (∀ y k, m y = some k → k.own → (ρ y).1 ≠ b) ∧ ∀ i, i < n → (el i).length = sz ∧ ∀ j, j < sz → w.cell? ⟨b, o + (i * sz + j), none⟩ = (el i)[j]? := by
  intro h0
  obtain ⟨b, o, rfl, h1, h2⟩ := hr h0
  have hbn := hb h0 _ rfl
  have hbl : w.heap[b]? = E.w0.heap[b]? := h.fr.block b h1 hbn
  refine ⟨b, o, rfl, Nat.lt_of_lt_of_le h1 h.fr.size, fun y k hy ho e => ?_, fun i hi => ⟨(h2 i hi).1, fun j hj => (World.cell?_of_block (w := E.w0) hbl).trans ((h2 i hi).2 j hj)⟩⟩
  rcases ((h.ok y k hy).place ho).2 with h3 | h3
  · omega
  · exact hbn (List.mem_map.2 ⟨_, h3, e⟩)
/-- A slice that lay in memory at the entry gets a name. -/
theorem GO.openRow {ops : Array Oper} {rest : List Oper} {t : Nat → TV} {m : Mem} (y d : Nat) {A : Option Addr} {n sz cap : Nat} {el : Nat → List Value} (hr : RdRow E.w0 A n sz el) (hb : E.bor = []) (ht : t d = .v (.c (.k (.slice A n cap)))) (hy : m y = none) (hyb : Nat.blt y 1000 = true)
    (k : GO P E ops K rest ⟨up t d (.v (.c (.inp y A n cap))), up m y (some (.ro sz n el))⟩) : GO P E ops K rest ⟨t, m⟩ := by
  intro ρ a w hs
  have hd := hs.tm d
  rw [show (St.mk t m).t d = _ from ht] at hd
  obtain ⟨ρ', h1, h2, h3⟩ := hs.mem.addRo (cap := cap) hy (by simpa [Nat.blt_eq] using hyb) (hs.mem.oldRow hr fun _ _ _ => by rw [hb]; simp)
  have hmv := hs.move h2 (fun z hz => isSome_up z hz) h1
  refine k ρ' a w ⟨h2, hmv.df, hmv.sz, fun j => ?_⟩
  by_cases hj : j = d
  · subst hj
    show TV.rep ρ' _ (up t j _ j) _
    rw [up_same]
    exact ⟨h3, hd.2⟩
  · show TV.rep ρ' _ (up t d _ j) _
    rw [up_other _ _ hj]
    exact hmv.tm j
theorem G.openRow {c : Code} {t : Nat → TV} {m : Mem} (y d : Nat) {A : Option Addr} {n sz cap : Nat} {el : Nat → List Value} (hr : RdRow E.w0 A n sz el) (hb : E.bor = []) (ht : t d = .v (.c (.k (.slice A n cap)))) (hy : m y = none) (hyb : Nat.blt y 1000 = true)
    (k : G P E K c ⟨up t d (.v (.c (.inp y A n cap))), up m y (some (.ro sz n el))⟩) : G P E K c ⟨t, m⟩ := by
  intro hn ρ a w hs
  have hd := hs.tm d
  rw [show (St.mk t m).t d = _ from ht] at hd
  obtain ⟨ρ', h1, h2, h3⟩ := hs.mem.addRo (cap := cap) hy (by simpa [Nat.blt_eq] using hyb) (hs.mem.oldRow hr fun _ _ _ => by rw [hb]; simp)
  have hmv := hs.move h2 (fun z hz => isSome_up z hz) h1
  refine k hn ρ' a w ⟨h2, hmv.df, hmv.sz, fun j => ?_⟩
  by_cases hj : j = d
  · subst hj
    show TV.rep ρ' _ (up t j _ j) _
    rw [up_same]
    exact ⟨h3, hd.2⟩
  · show TV.rep ρ' _ (up t d _ j) _
    rw [up_other _ _ hj]
    exact hmv.tm j
end
end Go.Sx
/- The symbolic executor, part AO: what is told of the world and not of a block (says): slices frozen to constants, slices opened again, calls that answer anything, the entry with what is told. Generic over P. -/
set_option linter.unusedVariables false
set_option linter.unusedSimpArgs false
namespace Go.Sx
open Go.RowKit
/-- The blocks of a slice; of a value that holds slices. -/
def sb : Value → Nat → Prop
  | .slice A n _, k => 0 < n ∧ ∃ a, A = some a ∧ a.block = k
  | _, _ => False
def vbk : Value → Nat → Prop
  | .agg cs, k => ∃ c ∈ cs.toList, sb c k
  | v, k => sb v k
/-- A constant slice that can be read. -/
def RdV (w : World) (v : Value) (n sz : Nat) (el : Nat → List Value) : Prop := ∃ A c, v = .slice A n c ∧ RdRow w A n sz el ∧ (0 < n → n ≤ c)
theorem steady_row {A : Option Addr} {n sz cap : Nat} {el : Nat → List Value} : Steady (sb (.slice A n cap)) (fun w => RdRow w A n sz el) := by
  intro w1 w2 h1 h2 h h0
  obtain ⟨b, o, rfl, h3, h4⟩ := h h0
  refine ⟨b, o, rfl, Nat.lt_of_lt_of_le h3 h2, fun i hi => ⟨(h4 i hi).1, fun j hj => ?_⟩⟩
  rw [← (h4 i hi).2 j hj]
  exact World.cell?_of_block (w := w1) (h1 b ⟨h0, _, rfl, rfl⟩)
theorem Steady.mono {S S' : Nat → Prop} {R : World → Prop} (h : Steady S R) (hs : ∀ k, S k → S' k) : Steady S' R := fun w1 w2 h1 h2 hr => h w1 w2 (fun k hk => h1 k (hs k hk)) h2 hr
theorem Steady.and {S : Nat → Prop} {R R' : World → Prop} (h : Steady S R) (h' : Steady S R') : Steady S (fun w => R w ∧ R' w) := fun w1 w2 h1 h2 hr => ⟨h w1 w2 h1 h2 hr.1, h' w1 w2 h1 h2 hr.2⟩
theorem Steady.all {ι : Sort _} {S : Nat → Prop} {R : ι → World → Prop} (h : ∀ i, Steady S (R i)) : Steady S (fun w => ∀ i, R i w) := fun w1 w2 h1 h2 hr i => h i w1 w2 h1 h2 (hr i)
theorem Steady.imp {p : Prop} {S : Nat → Prop} {R : World → Prop} (h : p → Steady S R) : Steady S (fun w => p → R w) := fun w1 w2 h1 h2 hr hp => h hp w1 w2 h1 h2 (hr hp)
theorem Steady.heap {S : Nat → Prop} {g : Nat} {o : Obj} (h : S g) : Steady S (fun w => w.heap[g]? = some o) := fun w1 w2 h1 _ hr => (h1 g h).trans hr
section
variable {P : Program} {E : Env} {K : Exit → St → Prop} {T : Tab}
theorem GO.sem {ops : Array Oper} {rest : List Oper} {st : St} (h : ∀ ρ a w, Sat E ρ st a w → ∃ ρ' st', Sat E ρ' st' a w ∧ GO P E ops K rest st') : GO P E ops K rest st := fun ρ a w hs =>
  let ⟨ρ', _, hs', k⟩ := h ρ a w hs
  k ρ' a w hs'
theorem G.sem {c : Code} {st : St} (h : ∀ ρ a w, Sat E ρ st a w → ∃ ρ' st', Sat E ρ' st' a w ∧ G P E K c st') : G P E K c st := fun hn ρ a w hs =>
  let ⟨ρ', _, hs', k⟩ := h ρ a w hs
  k hn ρ' a w hs'
/-- The memory is told of in other words; the world may have turned elsewhere. -/
theorem SatM.swap {ρ : Val} {m m' : Mem} {w w' : World} (h : SatM E ρ m w) (hfr : Fr E.w0 (E.bor.map (·.2)) w') (hsz : w.heap.size ≤ w'.heap.size) (hmm : ∀ x, (m x).isSome = true → (m' x).isSome = true)
    (hb : ∀ x b, m' x = some b → (m x = some b ∧ ∀ k, b.live → b.hits (ρ x) k → w'.heap[k]? = w.heap[k]?) ∨
      (∃ S R, b = .say S R ∧ R w' ∧ (∀ k, S k → k < w'.heap.size) ∧ Steady S R ∧ ∀ y c, y ≠ x → m' y = some c → c.own → ¬ S (ρ y).1) ∨ (∃ sz el, b = .ro sz 0 el)) : SatM E ρ m' w' := by
  refine ⟨hfr, h.bo, fun x b hx => ?_, fun x y b c hx hy ho hl hne => ?_⟩
  · rcases hb x b hx with ⟨h1, h2⟩ | ⟨S, R, rfl, h1, h2, h3, _⟩ | ⟨sz, el, rfl⟩
    · exact (h.ok x b h1).far hmm hsz fun k hk hl => h2 k hl hk
    · exact ⟨h1, h2, h3⟩
    · exact fun h0 => absurd h0 (Nat.lt_irrefl 0)
  · rcases hb x b hx with ⟨h1, h2⟩ | ⟨S, R, rfl, _⟩ | ⟨sz, el, rfl⟩
    · rcases hb y c hy with ⟨h3, h4⟩ | ⟨S, R, rfl, _, _, _, h5⟩ | ⟨sz, el, rfl⟩
      · exact h.ne x y b c h1 h3 ho hl hne
      · exact h5 x b hne hx ho
      · exact absurd hl (Nat.lt_irrefl 0)
    · exact ho.elim
    · exact ho.elim
theorem Sat.remem {ρ : Val} {t : Nat → TV} {m m' : Mem} {a : Act} {w w' : World} (h : Sat E ρ ⟨t, m⟩ a w) (hm : SatM E ρ m' w') (hmm : ∀ x, (m x).isSome = true → (m' x).isSome = true) {d : Nat} {tv : TV} (hd : tv.rep ρ m' (a.tmps.getD d undef)) : Sat E ρ ⟨up t d tv, m'⟩ a w' := by
  refine ⟨hm, h.df, h.sz, fun j => ?_⟩
  by_cases hj : j = d
  · subst hj
    show TV.rep ρ m' (up t j tv j) _
    rw [up_same]; exact hd
  · show TV.rep ρ m' (up t d tv j) _
    rw [up_other _ _ hj]
    exact TV.rep_mono hmm (fun _ _ => rfl) (h.tm j)
theorem Sat.remem0 {ρ : Val} {t : Nat → TV} {m m' : Mem} {a : Act} {w w' : World} (h : Sat E ρ ⟨t, m⟩ a w) (hm : SatM E ρ m' w') (hmm : ∀ x, (m x).isSome = true → (m' x).isSome = true) : Sat E ρ ⟨t, m'⟩ a w' :=
  ⟨hm, h.df, h.sz, fun j => TV.rep_mono hmm (fun _ _ => rfl) (h.tm j)⟩
theorem SatM.ownGe {ρ : Val} {m : Mem} {w : World} (h : SatM E ρ m w) {x : Nat} {b : Blk} (hx : m x = some b) (ho : b.own) : E.w0.heap.size ≤ (ρ x).1 ∨ (x, (ρ x).1) ∈ E.bor := ((h.ok x b hx).place ho).2
/-- A row of ours becomes a constant. -/
theorem Sat.freezeArr {ρ : Val} {t : Nat → TV} {m : Mem} {a : Act} {w : World} (h : Sat E ρ ⟨t, m⟩ a w) {x d n sz c n2 room : Nat} {ty : TypeId} {el : Nat → List Value} (ht : t d = .v (.c (.slc x 0 sz n c))) (hm : m x = some (.arr ty sz n2 el room)) (hn : n ≤ n2) :
    Sat E ρ ⟨up t d (.v (.c (.k (.slice (some ⟨(ρ x).1, 0, none⟩) n c)))), up m x (some (.say (· = (ρ x).1) fun w => RdRow w (some ⟨(ρ x).1, 0, none⟩) n sz el))⟩ a w := by
  have hk := h.mem.ok x _ hm
  have hsz : ∀ y, (m y).isSome = true → (up m x (some (.say (· = (ρ x).1) fun w => RdRow w (some ⟨(ρ x).1, 0, none⟩) n sz el)) y).isSome = true := fun y hy => isSome_up y hy
  refine h.remem (h.mem.swap h.mem.fr (Nat.le_refl _) hsz fun y b hy => ?_) hsz ?_
  · by_cases e : y = x
    · subst e
      rw [up_same] at hy
      injection hy with hy
      subst hy
      refine .inr (.inl ⟨_, _, rfl, ?_, ?_, ?_, fun z c hz hc ho => ?_⟩)
      · have := (h.mem.rdArr hm 0 n (by omega))
        simp only [Nat.zero_mul, Nat.add_zero, Nat.zero_add, hk.1] at this
        exact this
      · rintro k rfl; exact h.mem.lt hm trivial
      · exact (steady_row (cap := c)).mono fun k hk => by obtain ⟨_, a, e, rfl⟩ := hk; cases e; rfl
      · rw [up_other _ _ hz] at hc
        exact h.mem.ne z y c _ hc hm ho trivial hz
    · rw [up_other _ _ e] at hy
      exact .inl ⟨hy, fun _ _ _ => rfl⟩
  · have hd := h.tm d
    rw [show (St.mk t m).t d = _ from ht] at hd
    refine ⟨trivial, hd.2.trans ?_⟩
    simp [AV.conc, AC.conc, hk.1]
theorem GO.freezeArr {ops : Array Oper} {rest : List Oper} {t : Nat → TV} {m : Mem} (x d : Nat) {n sz c n2 room : Nat} {ty : TypeId} {el : Nat → List Value} (ht : t d = .v (.c (.slc x 0 sz n c))) (hm : m x = some (.arr ty sz n2 el room)) (hn : n ≤ n2)
    (k : ∀ g, (E.w0.heap.size ≤ g ∨ (x, g) ∈ E.bor) → GO P E ops K rest ⟨up t d (.v (.c (.k (.slice (some ⟨g, 0, none⟩) n c)))), up m x (some (.say (· = g) fun w => RdRow w (some ⟨g, 0, none⟩) n sz el))⟩) : GO P E ops K rest ⟨t, m⟩ :=
  GO.sem fun ρ a w hs => ⟨ρ, _, hs.freezeArr ht hm hn, k _ (hs.mem.ownGe hm trivial)⟩
theorem G.freezeArr {c0 : Code} {t : Nat → TV} {m : Mem} (x d : Nat) {n sz c n2 room : Nat} {ty : TypeId} {el : Nat → List Value} (ht : t d = .v (.c (.slc x 0 sz n c))) (hm : m x = some (.arr ty sz n2 el room)) (hn : n ≤ n2)
    (k : ∀ g, (E.w0.heap.size ≤ g ∨ (x, g) ∈ E.bor) → G P E K c0 ⟨up t d (.v (.c (.k (.slice (some ⟨g, 0, none⟩) n c)))), up m x (some (.say (· = g) fun w => RdRow w (some ⟨g, 0, none⟩) n sz el))⟩) : G P E K c0 ⟨t, m⟩ :=
  G.sem fun ρ a w hs => ⟨ρ, _, hs.freezeArr ht hm hn, k _ (hs.mem.ownGe hm trivial)⟩
/-- A row that a call has made becomes a constant. -/
theorem Sat.freezeRow {ρ : Val} {t : Nat → TV} {m : Mem} {a : Act} {w : World} (h : Sat E ρ ⟨t, m⟩ a w) {x d n sz n2 g : Nat} {el : Nat → List Value} (ht : t d = .v (.c (.row x n g))) (hm : m x = some (.ro sz n2 el)) (hn : n ≤ n2) :
    Sat E ρ ⟨up t d (.v (.c (.k (.slice (rowAd ρ x) n (ρ (x + 50)).1)))), up m x (some (.say (sb (.slice (rowAd ρ x) n (ρ (x + 50)).1)) fun w => RdRow w (rowAd ρ x) n sz el))⟩ a w ∧ n ≤ (ρ (x + 50)).1 ∧ (0 < n → ∃ b, rowAd ρ x = some b ∧ b.spot = none ∧ g ≤ b.block) := by
  have hd := h.tm d
  rw [show (St.mk t m).t d = _ from ht] at hd
  obtain ⟨ho, hd2⟩ := hd
  have hk := h.mem.rowR hm ho hn
  have hsz : ∀ y, (m y).isSome = true → (up m x (some (.say (sb (.slice (rowAd ρ x) n (ρ (x + 50)).1)) fun w => RdRow w (rowAd ρ x) n sz el)) y).isSome = true := fun y hy => isSome_up y hy
  have hrow : 0 < n → rowAd ρ x = some ⟨(ρ x).1, (ρ x).2, none⟩ := fun h0 => by
    obtain ⟨_, _, h3, _⟩ := ho
    simp [rowAd, (h3 h0).1]
  refine ⟨h.remem (h.mem.swap h.mem.fr (Nat.le_refl _) hsz fun y b hy => ?_) hsz ⟨trivial, hd2⟩, ho.2.2.2, fun h0 => ⟨_, hrow h0, rfl, (ho.2.2.1 h0).2⟩⟩
  by_cases e : y = x
  · subst e
    rw [up_same] at hy
    injection hy with hy
    subst hy
    refine .inr (.inl ⟨_, _, rfl, hk, ?_, steady_row, fun z c hz hc ho2 => ?_⟩)
    · rintro k ⟨h0, a, ha, rfl⟩
      obtain ⟨b, o, e, h1, _⟩ := hk h0
      rw [e] at ha
      cases ha
      exact h1
    · rw [up_other _ _ hz] at hc
      rintro ⟨h0, a, ha, e2⟩
      rw [hrow h0] at ha
      cases ha
      exact h.mem.ne z y c _ hc hm ho2 (show 0 < n2 by omega) hz e2.symm
  · rw [up_other _ _ e] at hy
    exact .inl ⟨hy, fun _ _ _ => rfl⟩
theorem GO.freezeRow {ops : Array Oper} {rest : List Oper} {t : Nat → TV} {m : Mem} (x d : Nat) {n sz n2 g : Nat} {el : Nat → List Value} (ht : t d = .v (.c (.row x n g))) (hm : m x = some (.ro sz n2 el)) (hn : n ≤ n2)
    (k : ∀ A cp, n ≤ cp → (0 < n → ∃ b, A = some b ∧ b.spot = none ∧ g ≤ b.block) → GO P E ops K rest ⟨up t d (.v (.c (.k (.slice A n cp)))), up m x (some (.say (sb (.slice A n cp)) fun w => RdRow w A n sz el))⟩) : GO P E ops K rest ⟨t, m⟩ :=
  GO.sem fun ρ a w hs => ⟨ρ, _, (hs.freezeRow ht hm hn).1, k _ _ (hs.freezeRow ht hm hn).2.1 (hs.freezeRow ht hm hn).2.2⟩
theorem G.freezeRow {c : Code} {t : Nat → TV} {m : Mem} (x d : Nat) {n sz n2 g : Nat} {el : Nat → List Value} (ht : t d = .v (.c (.row x n g))) (hm : m x = some (.ro sz n2 el)) (hn : n ≤ n2)
    (k : ∀ A cp, n ≤ cp → (0 < n → ∃ b, A = some b ∧ b.spot = none ∧ g ≤ b.block) → G P E K c ⟨up t d (.v (.c (.k (.slice A n cp)))), up m x (some (.say (sb (.slice A n cp)) fun w => RdRow w A n sz el))⟩) : G P E K c ⟨t, m⟩ :=
  G.sem fun ρ a w hs => ⟨ρ, _, (hs.freezeRow ht hm hn).1, k _ _ (hs.freezeRow ht hm hn).2.1 (hs.freezeRow ht hm hn).2.2⟩
/-- A constant slice of which something is told gets a name. -/
theorem Sat.openSay {ρ : Val} {t : Nat → TV} {m : Mem} {a : Act} {w : World} (h : Sat E ρ ⟨t, m⟩ a w) {X y d n sz cap : Nat} {A : Option Addr} {el : Nat → List Value} {S : Nat → Prop} {R : World → Prop} (hX : m X = some (.say S R)) (hR : ∀ w, R w → RdRow w A n sz el) (hS : ∀ k, sb (.slice A n cap) k → S k)
    (ht : t d = .v (.c (.k (.slice A n cap)))) (hy : m y = none) (hyb : y < 1000) : ∃ ρ', Sat E ρ' ⟨up t d (.v (.c (.inp y A n cap))), up m y (some (.ro sz n el))⟩ a w := by
  have hk := h.mem.ok X _ hX
  obtain ⟨ρ', h1, h2, h3⟩ := h.mem.addRo (cap := cap) hy hyb (A := A) (n := n) (sz := sz) (el := el) fun h0 => by
    obtain ⟨b, o, rfl, h4, h5⟩ := hR w hk.1 h0
    refine ⟨b, o, rfl, h4, fun z c hz hc e => ?_, h5⟩
    have hzX : z ≠ X := fun e => by subst e; have := hX.symm.trans hz; cases this; exact hc
    exact h.mem.ne z X c _ hz hX hc trivial hzX (show S (ρ z).1 from hS _ ⟨h0, _, rfl, e.symm⟩)
  have hd := h.tm d
  rw [show (St.mk t m).t d = _ from ht] at hd
  have hmv := h.move h2 (fun z hz => isSome_up z hz) h1
  exact ⟨ρ', hmv.remem h2 (fun z hz => hz) ⟨h3, hd.2⟩⟩
theorem GO.openSay {ops : Array Oper} {rest : List Oper} {t : Nat → TV} {m : Mem} (X y d : Nat) {n sz cap : Nat} {A : Option Addr} {el : Nat → List Value} {S : Nat → Prop} {R : World → Prop} (hX : m X = some (.say S R)) (hR : ∀ w, R w → RdRow w A n sz el) (hS : ∀ k, sb (.slice A n cap) k → S k)
    (ht : t d = .v (.c (.k (.slice A n cap)))) (hy : m y = none) (hyb : Nat.blt y 1000 = true) (k : GO P E ops K rest ⟨up t d (.v (.c (.inp y A n cap))), up m y (some (.ro sz n el))⟩) : GO P E ops K rest ⟨t, m⟩ :=
  GO.sem fun ρ a w hs => let ⟨ρ', h⟩ := hs.openSay hX hR hS ht hy (by simpa [Nat.blt_eq] using hyb); ⟨ρ', _, h, k⟩
theorem G.openSay {c : Code} {t : Nat → TV} {m : Mem} (X y d : Nat) {n sz cap : Nat} {A : Option Addr} {el : Nat → List Value} {S : Nat → Prop} {R : World → Prop} (hX : m X = some (.say S R)) (hR : ∀ w, R w → RdRow w A n sz el) (hS : ∀ k, sb (.slice A n cap) k → S k)
    (ht : t d = .v (.c (.k (.slice A n cap)))) (hy : m y = none) (hyb : Nat.blt y 1000 = true) (k : G P E K c ⟨up t d (.v (.c (.inp y A n cap))), up m y (some (.ro sz n el))⟩) : G P E K c ⟨t, m⟩ :=
  G.sem fun ρ a w hs => let ⟨ρ', h⟩ := hs.openSay hX hR hS ht hy (by simpa [Nat.blt_eq] using hyb); ⟨ρ', _, h, k⟩
/-- A constant pointer at a block that is only read. -/
theorem Sat.openPtr {ρ : Val} {t : Nat → TV} {m : Mem} {a : Act} {w : World} (h : Sat E ρ ⟨t, m⟩ a w) {X y d b : Nat} {ty : TypeId} {cs : List Value} {S : Nat → Prop} {R : World → Prop} (hX : m X = some (.say S R)) (hR : ∀ w, R w → w.heap[b]? = some (.cells cs.toArray ty (0, 0))) (hS : S b)
    (ht : t d = .v (.c (.k (.pointer (some ⟨b, 0, none⟩))))) (hy : m y = none) (hyb : y < 1000) : ∃ ρ', Sat E ρ' ⟨up t d (.v (.c (.ptr y 0 cs.length 0))), up m y (some (.ro cs.length 1 fun _ => cs))⟩ a w := by
  have hk := h.mem.ok X _ hX
  have hb := hR w hk.1
  obtain ⟨ρ', h1, h2, h3⟩ := h.mem.addRo (cap := 1) hy hyb (A := some ⟨b, 0, none⟩) (n := 1) (sz := cs.length) (el := fun _ => cs) fun _ => by
    refine ⟨b, 0, rfl, lt_of_heap hb, fun z c hz hc e => ?_, fun i hi => ⟨rfl, fun j hj => ?_⟩⟩
    · have hzX : z ≠ X := fun e => by subst e; have := hX.symm.trans hz; cases this; exact hc
      exact h.mem.ne z X c _ hz hX hc trivial hzX (show S (ρ z).1 from e ▸ hS)
    · have : i = 0 := by omega
      subst this
      rw [Nat.zero_mul, Nat.zero_add, Nat.zero_add, cell_of_heap hb, List.getElem?_toArray]
  have hd := h.tm d
  rw [show (St.mk t m).t d = _ from ht] at hd
  have hmv := h.move h2 (fun z hz => isSome_up z hz) h1
  refine ⟨ρ', hmv.remem h2 (fun z hz => hz) ⟨h3.1, hd.2.trans ?_⟩⟩
  have := h3.2 (by omega)
  injection this with this
  injection this with e1 e2
  simp [AV.conc, AC.conc, ← e1, ← e2]
theorem GO.openPtr {ops : Array Oper} {rest : List Oper} {t : Nat → TV} {m : Mem} (X y d : Nat) {b : Nat} {ty : TypeId} {cs : List Value} {S : Nat → Prop} {R : World → Prop} (hX : m X = some (.say S R)) (hR : ∀ w, R w → w.heap[b]? = some (.cells cs.toArray ty (0, 0))) (hS : S b)
    (ht : t d = .v (.c (.k (.pointer (some ⟨b, 0, none⟩))))) (hy : m y = none) (hyb : Nat.blt y 1000 = true) (k : GO P E ops K rest ⟨up t d (.v (.c (.ptr y 0 cs.length 0))), up m y (some (.ro cs.length 1 fun _ => cs))⟩) : GO P E ops K rest ⟨t, m⟩ :=
  GO.sem fun ρ a w hs => let ⟨ρ', h⟩ := hs.openPtr hX hR hS ht hy (by simpa [Nat.blt_eq] using hyb); ⟨ρ', _, h, k⟩
theorem G.openPtr {c : Code} {t : Nat → TV} {m : Mem} (X y d : Nat) {b : Nat} {ty : TypeId} {cs : List Value} {S : Nat → Prop} {R : World → Prop} (hX : m X = some (.say S R)) (hR : ∀ w, R w → w.heap[b]? = some (.cells cs.toArray ty (0, 0))) (hS : S b)
    (ht : t d = .v (.c (.k (.pointer (some ⟨b, 0, none⟩))))) (hy : m y = none) (hyb : Nat.blt y 1000 = true) (k : G P E K c ⟨up t d (.v (.c (.ptr y 0 cs.length 0))), up m y (some (.ro cs.length 1 fun _ => cs))⟩) : G P E K c ⟨t, m⟩ :=
  G.sem fun ρ a w hs => let ⟨ρ', h⟩ := hs.openPtr hX hR hS ht hy (by simpa [Nat.blt_eq] using hyb); ⟨ρ', _, h, k⟩
/-- Something more is told of the world. -/
theorem Sat.tell {ρ : Val} {t : Nat → TV} {m : Mem} {a : Act} {w : World} (h : Sat E ρ ⟨t, m⟩ a w) {y : Nat} (S : Nat → Prop) (R : World → Prop) (hr : R w) (hs : ∀ k, S k → k < w.heap.size) (hst : Steady S R) (hy : ∀ b, m y = some b → ∃ S R, b = .say S R) (hn : ∀ z c, m z = some c → c.own → ¬ S (ρ z).1) :
    Sat E ρ ⟨t, up m y (some (.say S R))⟩ a w := by
  refine h.remem0 (h.mem.swap h.mem.fr (Nat.le_refl _) (fun z hz => isSome_up z hz) fun z b hz => ?_) fun z hz => isSome_up z hz
  by_cases e : z = y
  · subst e
    rw [up_same] at hz
    injection hz with hz
    subst hz
    refine .inr (.inl ⟨S, R, rfl, hr, hs, hst, fun z2 c hz2 hc ho => ?_⟩)
    rw [up_other _ _ hz2] at hc
    exact hn z2 c hc ho
  · rw [up_other _ _ e] at hz
    exact .inl ⟨hz, fun _ _ _ => rfl⟩
/-- Two things told become one. -/
theorem G.both {c : Code} {t : Nat → TV} {m : Mem} (y x1 x2 : Nat) {S1 S2 : Nat → Prop} {R1 R2 : World → Prop} (S : Nat → Prop) (R : World → Prop) (h1 : m x1 = some (.say S1 R1)) (h2 : m x2 = some (.say S2 R2)) (hS1 : ∀ k, S k → S1 k ∨ S2 k) (hst : Steady S R) (hR : ∀ w, R1 w → R2 w → R w) (hy : ∀ b, m y = some b → ∃ S R, b = .say S R)
    (k : G P E K c ⟨t, up m y (some (.say S R))⟩) : G P E K c ⟨t, m⟩ := G.sem fun ρ a w hs => by
  obtain ⟨a1, a2, a3⟩ := hs.mem.ok _ _ h1
  obtain ⟨b1, b2, b3⟩ := hs.mem.ok _ _ h2
  refine ⟨ρ, _, hs.tell S R (hR w a1 b1) (fun k hk => (hS1 k hk).elim (a2 k) (b2 k)) hst hy (fun z d hz hd hk => ?_), k⟩
  rcases hS1 _ hk with hk | hk
  · exact hs.mem.ne z x1 d _ hz h1 hd trivial (fun e => by subst e; rw [h1] at hz; cases hz; exact hd) hk
  · exact hs.mem.ne z x2 d _ hz h2 hd trivial (fun e => by subst e; rw [h2] at hz; cases hz; exact hd) hk
theorem GO.both {ops : Array Oper} {rest : List Oper} {t : Nat → TV} {m : Mem} (y x1 x2 : Nat) {S1 S2 : Nat → Prop} {R1 R2 : World → Prop} (S : Nat → Prop) (R : World → Prop) (h1 : m x1 = some (.say S1 R1)) (h2 : m x2 = some (.say S2 R2)) (hS1 : ∀ k, S k → S1 k ∨ S2 k) (hst : Steady S R) (hR : ∀ w, R1 w → R2 w → R w) (hy : ∀ b, m y = some b → ∃ S R, b = .say S R)
    (k : GO P E ops K rest ⟨t, up m y (some (.say S R))⟩) : GO P E ops K rest ⟨t, m⟩ := GO.sem fun ρ a w hs => by
  obtain ⟨a1, a2, a3⟩ := hs.mem.ok _ _ h1
  obtain ⟨b1, b2, b3⟩ := hs.mem.ok _ _ h2
  refine ⟨ρ, _, hs.tell S R (hR w a1 b1) (fun k hk => (hS1 k hk).elim (a2 k) (b2 k)) hst hy (fun z d hz hd hk => ?_), k⟩
  rcases hS1 _ hk with hk | hk
  · exact hs.mem.ne z x1 d _ hz h1 hd trivial (fun e => by subst e; rw [h1] at hz; cases hz; exact hd) hk
  · exact hs.mem.ne z x2 d _ hz h2 hd trivial (fun e => by subst e; rw [h2] at hz; cases hz; exact hd) hk
/-- A call that answers any value, of which something is told. -/
theorem SatM.told {ρ : Val} {m : Mem} {w w' : World} (h : SatM E ρ m w) (hb : Below w.heap.size w w') {x : Nat} {S : Nat → Prop} {R : World → Prop} (hx : m x = none) (hr : R w') (hs : ∀ k, S k → w.heap.size ≤ k ∧ k < w'.heap.size) (hst : Steady S R) : SatM E ρ (up m x (some (.say S R))) w' := by
  have h2 := h.below hb
  refine h2.swap h2.fr (Nat.le_refl _) (fun z hz => isSome_up z hz) fun z b hz => ?_
  by_cases e : z = x
  · subst e
    rw [up_same] at hz
    injection hz with hz
    subst hz
    refine .inr (.inl ⟨S, R, rfl, hr, fun k hk => (hs k hk).2, hst, fun z2 c hz2 hc ho hk => ?_⟩)
    rw [up_other _ _ hz2] at hc
    have := h.lt hc ho
    have := (hs _ hk).1
    omega
  · rw [up_other _ _ e] at hz
    exact .inl ⟨hz, fun _ _ _ => rfl⟩
theorem GO.callSay {ι : Type} {ops : Array Oper} {rest : List Oper} {o : Oper} {c : Call} {f : FuncId} {avs : List AV} {caps : List Cap} {t : Nat → TV} {m : Mem} (x : Nat) (val : ι → Value) (S : ι → Nat → Prop) (R : ι → World → Prop) (hg : o.guard = none) (hop : o.op = .call c) (he : callE t c = .mk f avs caps) (hd : dstOk E.N o.dst = true) (hx : m x = none)
    (hcf : ∀ (args : Array Value) (w : World), (callFunc f args).run P w = .ok (.enter f args) w)
    (hc : ∀ ρ w, SatM E ρ m w → (∀ v ∈ avs, v.ok ρ m) → Calls P f (avs.map (AV.conc ρ) ++ caps.map (Cap.conc ρ)).toArray w fun e w' => ∃ i, e = .returned (val i) ∧ Below w.heap.size w w' ∧ R i w' ∧ (∀ k, S i k → w.heap.size ≤ k ∧ k < w'.heap.size) ∧ Steady (S i) (R i))
    (k : ∀ i, GO P E ops K rest ⟨Sx.putT t o.dst (toTV (val i)), up m x (some (.say (S i) (R i)))⟩) : GO P E ops K (o :: rest) ⟨t, m⟩ := by
  refine GO.call hg hop he hcf (fun ρ a w hs hok _ => (hc ρ w hs.mem hok).mono ?_)
  rintro e w' ⟨i, rfl, hb, hr, hk, hst⟩
  exact ⟨_, ρ, _, rfl, ((hs.below hb).remem0 (hs.mem.told hb hx hr hk hst) (fun z hz => isSome_up z hz)).putT (dstOk_lt hd) (toTV_rep _ _ _), k i⟩
/-! ### The entry -/
def borT (n : Nat) : List Nat → List (Nat × Nat)
  | [] => []
  | g :: r => (n, g) :: borT (n + 1) r
def ρT (n : Nat) : List Nat → Val
  | [], _ => (0, 0)
  | g :: r, x => bif Nat.beq x n then (g, 0) else ρT (n + 1) r x
theorem borT_snd (n : Nat) (T : List Nat) : (borT n T).map (·.2) = T := by
  induction T generalizing n with
  | nil => rfl
  | cons g r ih => simp [borT, ih]
theorem borT_mem {n : Nat} {T : List Nat} {p : Nat × Nat} (h : p ∈ borT n T) : n ≤ p.1 ∧ ρT n T p.1 = (p.2, 0) := by
  induction T generalizing n with
  | nil => cases h
  | cons g r ih =>
    cases h with
    | head => exact ⟨Nat.le_refl _, by simp [ρT]⟩
    | tail _ h =>
      obtain ⟨h1, h2⟩ := ih h
      refine ⟨by omega, ?_⟩
      rw [ρT]
      have : Nat.beq p.1 n = false := nbeq (by omega)
      rw [this]; exact h2
def isK : List AC → List Value → Prop
  | [], [] => True
  | .k v :: r, u :: s => v = u ∧ isK r s
  | _, _ => False
theorem isK_eq {cs : List AC} {vs : List Value} (h : isK cs vs) : cs = vs.map .k := by
  induction cs generalizing vs with
  | nil => cases vs with
    | nil => rfl
    | cons _ _ => cases h
  | cons c r ih => cases vs with
    | nil => cases c <;> cases h
    | cons u s => cases c <;> first
        | (obtain ⟨rfl, h⟩ := h; rw [ih h]; rfl)
        | cases h
/-- What is told at the start: of the world, or of a block that may be turned. -/
def ent (n : Nat) (T : List Nat) (w : World) (x : Nat) : Blk → Prop
  | .say S R => R w ∧ (∀ k, S k → k < w.heap.size) ∧ Steady S R
  | .var ty cells => (x, (ρT n T x).1) ∈ borT n T ∧ ∃ vs, isK cells vs ∧ w.heap[(ρT n T x).1]? = some (.cells vs.toArray ty (0, 0))
  | _ => False
def sepB (n : Nat) (T : List Nat) (x : Nat) (b : Blk) : List (Nat × Blk) → Prop
  | [] => True
  | p :: r => (b.own → ¬ p.2.hits (ρT n T p.1) (ρT n T x).1) ∧ (p.2.own → ¬ b.hits (ρT n T x) (ρT n T p.1).1) ∧ sepB n T x b r
def mlOK (n : Nat) (T : List Nat) (w : World) : List (Nat × Blk) → Prop
  | [] => True
  | p :: r => ent n T w p.1 p.2 ∧ sepB n T p.1 p.2 r ∧ mlOK n T w r
theorem sepB_mem {n : Nat} {T : List Nat} {x : Nat} {b : Blk} {l : List (Nat × Blk)} (h : sepB n T x b l) : ∀ p ∈ l, (b.own → ¬ p.2.hits (ρT n T p.1) (ρT n T x).1) ∧ (p.2.own → ¬ b.hits (ρT n T x) (ρT n T p.1).1) := by
  induction l with
  | nil => intro p hp; cases hp
  | cons q r ih =>
    intro p hp
    cases hp with
    | head => exact ⟨h.1, h.2.1⟩
    | tail _ hp => exact ih h.2.2 p hp
theorem mlOK_ent {n : Nat} {T : List Nat} {w : World} {l : List (Nat × Blk)} (h : mlOK n T w l) : ∀ p ∈ l, ent n T w p.1 p.2 := by
  induction l with
  | nil => intro p hp; cases hp
  | cons q r ih =>
    intro p hp
    cases hp with
    | head => exact h.1
    | tail _ hp => exact ih h.2.2 p hp
theorem mlOK_sep {n : Nat} {T : List Nat} {w : World} {l : List (Nat × Blk)} (h : mlOK n T w l) : ∀ p ∈ l, ∀ q ∈ l, p.1 ≠ q.1 → (p.2.own → ¬ q.2.hits (ρT n T q.1) (ρT n T p.1).1) := by
  induction l with
  | nil => intro p hp; cases hp
  | cons u r ih =>
    intro p hp q hq hne ho
    cases hp with
    | head =>
      cases hq with
      | head => exact absurd rfl hne
      | tail _ hq => exact (sepB_mem h.2.1 q hq).1 ho
    | tail _ hp =>
      cases hq with
      | head => exact (sepB_mem h.2.1 p hp).2 ho
      | tail _ hq => exact ih h.2.2 p hp q hq hne ho
def allK (a : Array Value) : List (Nat × TV) → Prop
  | [] => True
  | p :: r => p.2 = toTV (a.getD p.1 undef) ∧ allK a r
theorem allK_mem {a : Array Value} {l : List (Nat × TV)} (h : allK a l) : ∀ p ∈ l, p.2 = toTV (a.getD p.1 undef) := by
  induction l with
  | nil => intro p hp; cases hp
  | cons q r ih =>
    intro p hp
    cases hp with
    | head => exact h.1
    | tail _ hp => exact ih h.2 p hp
theorem Sat.say0 {n N : Nat} {T : List Nat} {w : World} {rnd : Option Nat} {dfr : List Deferred} {a : Act} {tl : List (Nat × TV)} {ml : List (Nat × Blk)} (hn : 1000 ≤ n) (hdf : a.defers = dfr) (hsz : a.tmps.size = N) (ht : allK a.tmps tl) (hm : mlOK n T w ml) :
    Sat ⟨w, borT n T, N, rnd, dfr⟩ (ρT n T) (St.of tl ml) a w := by
  have e1 : ∀ x b, lkM ml x = some b → (x, b) ∈ ml := by
    intro x b hx
    rcases lkM_mem (ml := ml) (j := x) with h | ⟨p, hp, rfl, h2⟩
    · rw [h] at hx; cases hx
    · rw [h2] at hx; cases hx; exact hp
  refine ⟨⟨Fr.refl _ _, fun p hp => ?_, fun x b hx => ?_, fun x y b c hx hy ho hl hne => ?_⟩, hdf, hsz, fun j => ?_⟩
  · obtain ⟨h1, h2⟩ := borT_mem hp
    exact ⟨h2, by omega⟩
  · have := mlOK_ent hm _ (e1 x b hx)
    cases b with
    | say S R => exact this
    | var ty cells =>
      obtain ⟨h1, vs, h2, h3⟩ := this
      obtain ⟨_, h4⟩ := borT_mem h1
      obtain rfl := isK_eq h2
      refine ⟨by rw [show ρT n T x = _ from h4], .inr h1, ?_, fun c hc => by obtain ⟨v, _, rfl⟩ := List.mem_map.1 hc; trivial⟩
      rw [map_conc_k]; exact h3
    | _ => exact this.elim
  · exact mlOK_sep hm _ (e1 x b hx) _ (e1 y c hy) hne ho
  · show (lkT tl j).rep _ _ _
    rcases lkT_mem (tl := tl) (j := j) with h | ⟨p, hp, rfl, h2⟩
    · rw [h]; trivial
    · rw [h2, allK_mem ht p hp]
      exact toTV_rep _ _ _
def cnA : AC → Prop
  | .k _ => True
  | _ => False
def cnL : List AC → Prop
  | [] => True
  | a :: r => cnA a ∧ cnL r
def cnV : AV → Prop
  | .c a => cnA a
  | .agg l => cnL l
def allCn : List AV → Prop
  | [] => True
  | a :: r => cnV a ∧ allCn r
theorem cnA_rep {a : AC} (h : cnA a) (ρ ρ' : Val) (m : Mem) : a.ok ρ m ∧ a.conc ρ' = a.conc ρ := by
  cases a <;> first
    | exact ⟨trivial, rfl⟩
    | exact h.elim
theorem cnL_rep {l : List AC} (h : cnL l) (ρ ρ' : Val) (m : Mem) : (∀ a ∈ l, a.ok ρ m) ∧ l.map (AC.conc ρ') = l.map (AC.conc ρ) := by
  induction l with
  | nil => exact ⟨(fun a ha => by cases ha), rfl⟩
  | cons a r ih =>
    refine ⟨fun b hb => ?_, by rw [List.map_cons, List.map_cons, (cnA_rep h.1 ρ ρ' m).2, (ih h.2).2]⟩
    cases hb with
    | head => exact (cnA_rep h.1 ρ ρ' m).1
    | tail _ hb => exact (ih h.2).1 b hb
theorem cnV_rep {a : AV} (h : cnV a) (ρ ρ' : Val) (m : Mem) : a.ok ρ m ∧ a.conc ρ' = a.conc ρ := by
  cases a with
  | c a => exact cnA_rep h ρ ρ' m
  | agg l => exact ⟨(cnL_rep h ρ ρ' m).1, by simp only [AV.conc, (cnL_rep h ρ ρ' m).2]⟩
theorem allCn_mem {l : List AV} (h : allCn l) : ∀ a ∈ l, cnV a := by
  induction l with
  | nil => intro a ha; cases ha
  | cons b r ih =>
    intro a ha
    cases ha with
    | head => exact h.1
    | tail _ ha => exact ih h.2 a ha
/-- A function that is entered with constants, and with what is told of the world. -/
theorem enterSay {f : FuncId} {fn : Func} {c : Code} {args : Array Value} {w : World} {R : Ending → World → Prop} (T : List Nat) (avs : List AV) (ml : List (Nat × Blk)) (hf : P.funcs[f]? = some fn) (hb : fn.body = some c) (N : Nat) (hN : fn.ntmps = N) (hargs : args = (avs.map (AV.conc fun _ => (0, 0))).toArray)
    (hl : Nat.ble avs.length N = true) (hc : allCn avs) (hm : mlOK 1000 T w ml) (h : G P ⟨w, borT 1000 T, N, none, []⟩ (retK P ⟨w, borT 1000 T, N, none, []⟩ fn R) c ⟨argsT avs, lkM ml⟩) : Calls P f args w R := by
  subst hN
  have hl := Nat.le_of_ble_eq_true hl
  have h0 : Sat ⟨w, borT 1000 T, fn.ntmps, none, []⟩ (ρT 1000 T) (St.of [] ml) { tmps := args ++ Array.replicate (fn.ntmps - args.size) undef, defers := [] } w :=
    Sat.say0 (Nat.le_refl _) rfl (by rw [hargs]; simp; omega) trivial hm
  refine enter rfl (st := ⟨argsT avs, lkM ml⟩) hf hb (ρT 1000 T) ⟨h0.mem, h0.df, h0.sz, fun j => ?_⟩ h
  show (argsT avs j).rep _ _ _
  unfold argsT
  cases hj : avs[j]? with
  | none => trivial
  | some a =>
    have hlt : j < avs.length := (List.getElem?_eq_some_iff.1 hj).1
    have hmem : a ∈ avs := List.mem_of_getElem? hj
    have hr := cnV_rep (allCn_mem hc a hmem) (ρT 1000 T) (fun _ => (0, 0)) (lkM ml)
    refine ⟨hr.1, ?_⟩
    rw [← hr.2, hargs, Array.getD_eq_getD_getElem?, Array.getElem?_append_left (by simpa using hlt)]
    simp [hj]
end
end Go.Sx
/- The symbolic executor, part AP: iterators (a range over a function): what an iterator owes its caller, the statement by it, the call of yield. Generic over P. -/
set_option linter.unusedVariables false
set_option linter.unusedSimpArgs false
namespace Go.Sx
open Go.RowKit
/-- Nothing but the heap has turned, and it has not shrunk. -/
structure Same (w0 w : World) : Prop where
  os : w.os = w0.os
  tape : w.tape = w0.tape
  output : w.output = w0.output
  size : w0.heap.size ≤ w.heap.size
theorem Same.refl (w : World) : Same w w := ⟨rfl, rfl, rfl, Nat.le_refl _⟩
theorem Same.trans {a b c : World} (h : Same a b) (k : Same b c) : Same a c := ⟨k.os.trans h.os, k.tape.trans h.tape, k.output.trans h.output, Nat.le_trans h.size k.size⟩
theorem Fr.same {w0 w : World} {bs : List Nat} (h : Fr w0 bs w) : Same w0 w := ⟨h.os, h.tape, h.output, h.size⟩
theorem same_of_below {n : Nat} {w0 w : World} (h : Below n w0 w) : Same w0 w := ⟨h.os, h.tape, h.output, h.size⟩
theorem Fr.trans' {w0 w w' : World} {bs bs' : List Nat} (h : Fr w0 bs w) (h' : Fr w bs' w') (hs : ∀ k, k < w0.heap.size → k ∈ bs' → k ∈ bs) : Fr w0 bs w' :=
  ⟨h'.os.trans h.os, h'.tape.trans h.tape, h'.output.trans h.output, Nat.le_trans h.size h'.size, fun k hk hn => (h'.block k (Nat.lt_of_lt_of_le hk h.size) fun hm => hn (hs k hk hm)).trans (h.block k hk hn)⟩
theorem Fr.more {w0 w : World} {bs bs' : List Nat} (h : Fr w0 bs w) (hs : ∀ k ∈ bs, k ∈ bs') : Fr w0 bs' w := ⟨h.os, h.tape, h.output, h.size, fun k hk hn => h.block k hk fun hm => hn (hs k hm)⟩
theorem Fr.putObj {w0 w : World} {bs : List Nat} (h : Fr w0 bs w) {l : Nat} (hl : w0.heap.size ≤ l ∨ l ∈ bs) (o : Obj) : Fr w0 bs (w.putObj l o) :=
  ⟨h.os, h.tape, h.output, by rw [World.putObj_size]; exact h.size, fun k hk hn => by
    refine (World.putObj_heap_other ?_).trans (h.block k hk hn)
    rintro rfl
    rcases hl with hl | hl
    · omega
    · exact hn hl⟩
/-- One round for the value v: it goes on. -/
def YieldTo (P : Program) (l : Nat) (v : Value) (W : World) (R : World → Prop) : Prop := YieldAt Fence.wide 5 P l #[v] W fun e W' => e = .returned (.bool true) ∧ R W'
/-- WHAT AN ITERATOR OWES: whatever loop l (whose rounds turn the blocks T alone and keep J) ranges over the value g: it gives the values xs, in this order. What it leans on are the blocks rd. Z: the blocks on which J hangs. -/
def Rounds (P : Program) {α : Type} (l : Nat) (T : List Nat) (Rel : α → World → Value → Prop) (xs : List α) (J : List α → (Nat → Prop) → World → Prop) (W : World) : Prop :=
  (∀ s Z, Steady Z (J s Z)) ∧ ∀ s x v Z W1, x ∈ xs → Same W W1 → J s Z W1 → (∀ k, Z k → k < W1.heap.size) → Rel x W1 v → (∀ k, vbk v k → k < W1.heap.size ∧ k ∉ T) →
    YieldTo P l v W1 fun W' => Fr W1 T W' ∧ ∃ Z', J (s ++ [x]) Z' W' ∧ ∀ k, Z' k → (Z k ∨ vbk v k ∨ W1.heap.size ≤ k) ∧ k < W'.heap.size
def Iter (P : Program) {α : Type} (g : Value) (rd : Nat → Prop) (Rel : Nat → α → World → Value → Prop) (xs : List α) (w : World) : Prop :=
  ∃ f lb, g = .func (.func f) #[] lb ∧ (∀ (args : Array Value) (w : World), (callFunc f args).run P w = .ok (.enter f args) w) ∧
  ∀ (l : Nat) (T : List Nat) (J : List α → (Nat → Prop) → World → Prop) (Z : Nat → Prop) (W : World),
    (∀ k, rd k → W.heap[k]? = w.heap[k]?) → w.heap.size ≤ W.heap.size → (∀ k ∈ T, k < W.heap.size ∧ ¬ rd k) → (∀ k, Z k → k < W.heap.size) → Rounds P l T (Rel W.heap.size) xs J W → J [] Z W →
    Calls P f (#[.func (.yield l) #[] #[]] ++ lb) W fun e W' => (∃ v, e = .returned v) ∧ Fr W T W' ∧ ∃ Z', J xs Z' W' ∧ ∀ k, Z' k → k < W'.heap.size
theorem Iter.steady {P : Program} {α : Type} {g : Value} {rd : Nat → Prop} {Rel : Nat → α → World → Value → Prop} {xs : List α} : Steady rd (Iter P g rd Rel xs) := by
  rintro w1 w2 h1 h2 ⟨f, lb, e1, e2, h⟩
  exact ⟨f, lb, e1, e2, fun l T J Z W h3 h4 => h l T J Z W (fun k hk => (h3 k hk).trans (h1 k hk)) (Nat.le_trans h2 h4)⟩
theorem wpIn_n {r : Option Nat} {n n' : Nat} {P : Program} {c : Code} {Q : Exit → Act → World → Prop} {a : Act} {w : World} (h : c.wpIn (fenR r) n P Q a w) : c.wpIn (fenR r) n' P Q a w := fun b k cs h1 h2 _ => h b k cs h1 h2 (room_fenR _ _)
/-- THE STATEMENT 'for x := range g', by what the iterator owes. D: the block for deferred calls; l: the loop's record. -/
theorem wp_range {P : Program} {α : Type} {g : Operand} {p : Tmp} {assign body : Code} {Q : Exit → Act → World → Prop} {a : Act} {w : World} {gv : Value} {rd : Nat → Prop} {Rel : Nat → α → World → Value → Prop} {xs : List α}
    (hg : a.eval g = gv) (hI : Iter P gv rd Rel xs w) (hrd : ∀ k, rd k → k < w.heap.size) (T : List Nat) (hT : ∀ k ∈ T, k < w.heap.size ∧ ¬ rd k)
    (I : List α → (Nat → Prop) → World → Prop) (hst : ∀ s Z, Steady Z (I s Z)) (Z0 : Nat → Prop) (hZ0 : ∀ k, Z0 k → k < w.heap.size) (h0 : I [] Z0 w)
    (hround : ∀ l s x v Z W1, x ∈ xs → l = w.heap.size + 1 → Same w W1 → l < W1.heap.size → I s Z W1 → (∀ k, Z k → k < W1.heap.size ∧ k ≠ l) → Rel (w.heap.size + 2) x W1 v → (∀ k, vbk v k → k < W1.heap.size ∧ k ∉ T ∧ k ≠ l) →
      ∃ A₁ : Act → World → Prop, assign.wpIn (fenR (some l)) 6 P (fun e a₁ w₁ => e = .normal ∧ A₁ a₁ w₁) { tmps := a.tmps.setIfInBounds p v, defers := [] } W1 ∧
        ∀ a₁ w₁, A₁ a₁ w₁ → Fr W1 [] w₁ ∧ ∀ W2, Same w₁ W2 → W2.heap.size = w₁.heap.size → (∀ k, k ≠ l → W2.heap[k]? = w₁.heap[k]?) →
          body.wpIn (fenR (some l)) 6 P (fun e a₃ W3 => e = .normal ∧ Fr W2 T W3 ∧ ∃ Z', I (s ++ [x]) Z' W3 ∧ ∀ k, Z' k → (Z k ∨ vbk v k ∨ W1.heap.size ≤ k) ∧ k < W3.heap.size) a₁ W2)
    (hdone : ∀ Z W3, Fr w T W3 → I xs Z W3 → (∀ k, Z k → k < W3.heap.size ∧ k ≠ w.heap.size) → W3.heap[w.heap.size]? = some (.deferred (some [])) → Q .normal { a with defers := { target := .collected w.heap.size, args := #[] } :: a.defers } W3) :
    (Code.rangeFunc g #[p] assign body).wpIn (fenR none) 6 P Q a w := by
  obtain ⟨f, lb, rfl, eg, hseq⟩ := hI
  rw [fenR_none]
  refine wpIn_rangeFunc ?_
  intro fn hfn
  obtain ⟨rec, hrec⟩ : ∃ rec : LoopState → Option Code → Loop, rec = fun st pe => { state := st, pending := pe, fn, tmps := a.tmps, params := #[p], assign, body, defers := w.heap.size } := ⟨_, rfl⟩
  obtain ⟨W1, hW1⟩ : ∃ W1, (w.alloc (.deferred (some []))).alloc (.loop (rec .ready none)) = W1 := ⟨_, rfl⟩
  have hsz1 : W1.heap.size = w.heap.size + 2 := by rw [← hW1]; simp
  have hL1 : W1.heap[w.heap.size + 1]? = some (.loop (rec .ready none)) := by
    rw [← hW1]; have := World.alloc_heap_new (w.alloc (.deferred (some []))) (.loop (rec .ready none)); rwa [World.size_alloc] at this
  have hK1 : W1.heap[w.heap.size]? = some (.deferred (some [])) := by
    rw [← hW1]; exact (Below.heap_alloc _ _ _ (by simp)).trans (World.alloc_heap_new w _)
  have hB1 : Below w.heap.size w W1 := by rw [← hW1]; exact ((Below.refl _ w).alloc (Nat.le_refl _) _).alloc (by simp) _
  have hI1 : I [] Z0 W1 := hst _ _ w W1 (fun k hk => hB1.block k (hZ0 k hk)) hB1.size h0
  refine ⟨w.heap.size + 1, [{ target := .collected w.heap.size, args := #[] }], W1, { target := .fn (.func f) lb, args := #[.func (.yield (w.heap.size + 1)) #[] #[]] }, W1, f,
    #[.func (.yield (w.heap.size + 1)) #[] #[]] ++ lb, W1, ?_, ?_, ?_, ?_, (fun hd => by cases hd), ?_⟩
  · rw [← hW1, hrec]; exact run_enterLoop_outer _ _ _ _ _
  · simp only [resolve, hg]
    simp [go_sem]
  · intro f' hf'; trivial
  · simp [invoke, go_sem, eg]
  · refine callsIn_wide.2 ((hseq (w.heap.size + 1) ((w.heap.size + 1) :: w.heap.size :: T)
      (fun s Z W => ∃ Zi : Nat → Prop, (∀ k, Z k ↔ (Zi k ∨ k = w.heap.size + 1 ∨ k = w.heap.size)) ∧ (∀ k, Zi k → k ≠ w.heap.size + 1 ∧ k ≠ w.heap.size) ∧ I s Zi W ∧ W.heap[w.heap.size + 1]? = some (.loop (rec .ready none)) ∧ W.heap[w.heap.size]? = some (.deferred (some [])))
      (fun k => Z0 k ∨ k = w.heap.size + 1 ∨ k = w.heap.size) W1 (fun k hk => hB1.block k (hrd k hk)) (by omega) ?_ (fun k hk => ?_) ⟨?_, ?_⟩ ⟨Z0, fun _ => Iff.rfl, fun k hk => by have := hZ0 k hk; omega, hI1, hL1, hK1⟩).mono ?_)
    · intro k hk
      rcases List.mem_cons.1 hk with rfl | hk
      · exact ⟨by omega, fun h => by have := hrd _ h; omega⟩
      rcases List.mem_cons.1 hk with rfl | hk
      · exact ⟨by omega, fun h => by have := hrd _ h; omega⟩
      · exact ⟨by have := (hT k hk).1; omega, (hT k hk).2⟩
    · rcases hk with hk | rfl | rfl
      · have := hZ0 k hk; omega
      · omega
      · omega
    · rintro s Z X Y h1 h2 ⟨Zi, e1, e2, e3, e4, e5⟩
      exact ⟨Zi, e1, e2, hst s Zi X Y (fun k hk => h1 k ((e1 k).2 (.inl hk))) h2 e3, (h1 _ ((e1 _).2 (.inr (.inl rfl)))).trans e4, (h1 _ ((e1 _).2 (.inr (.inr rfl)))).trans e5⟩
    · rintro s x v Z W hxs hsame ⟨Zi, e1, e2, e3, hl, hk⟩ hZ hrel hv
      rw [hsz1] at hrel
      have hlt : w.heap.size + 1 < W.heap.size := (Array.getElem?_eq_some_iff.1 hl).1
      have hy := run_yield (P := P) (args := #[v]) hl (by rw [hrec]; rfl)
      rw [hrec] at hy
      have hy2 : (Instr.yield (w.heap.size + 1) #[v]).run P W = .ok (.round (w.heap.size + 1) fn (a.tmps.setIfInBounds p v) assign body) W := by simpa using hy
      have hZi : ∀ k, Zi k → k < W.heap.size ∧ k ≠ w.heap.size + 1 := fun k hk => ⟨hZ k ((e1 k).2 (.inl hk)), (e2 k hk).1⟩
      have hwW : Same w W := (same_of_below hB1).trans hsame
      obtain ⟨A₁, hA, hB⟩ := hround (w.heap.size + 1) s x v Zi W hxs rfl hwW hlt e3 hZi hrel (fun k hk => ⟨(hv k hk).1, fun h => (hv k hk).2 (by simp [h]), fun h => (hv k hk).2 (by simp [h])⟩)
      refine ⟨fn, _, assign, body, hy2, roundIn_of_wpIn hfn (wpIn_mono (wpIn_n hA) ?_)⟩
      rintro e a₁ w₁ ⟨rfl, ha⟩
      obtain ⟨hfr, hbody⟩ := hB a₁ w₁ ha
      have hl1 : w₁.heap[w.heap.size + 1]? = some (.loop (rec .ready none)) := (hfr.block _ hlt (by simp)).trans hl
      have hk1 : w₁.heap[w.heap.size]? = some (.deferred (some [])) := (hfr.block _ (by omega) (by simp)).trans hk
      have hlt1 : w.heap.size + 1 < w₁.heap.size := (Array.getElem?_eq_some_iff.1 hl1).1
      refine ⟨_, run_beginRound hl1 (by rw [hrec]), ?_⟩
      obtain ⟨W2, hW2⟩ : ∃ W2, w₁.putObj (w.heap.size + 1) (.loop { rec .ready none with state := .busy }) = W2 := ⟨_, rfl⟩
      rw [hW2]
      have hs2 : W2.heap.size = w₁.heap.size := by rw [← hW2]; simp
      have hl2 : W2.heap[w.heap.size + 1]? = some (.loop { rec .ready none with state := .busy }) := by rw [← hW2]; exact World.putObj_heap_same hlt1
      have hk2 : W2.heap[w.heap.size]? = some (.deferred (some [])) := by rw [← hW2]; exact (World.putObj_heap_other (by omega)).trans hk1
      have ho2 : ∀ k, k ≠ w.heap.size + 1 → W2.heap[k]? = w₁.heap[k]? := fun k hk => by rw [← hW2]; exact World.putObj_heap_other hk
      have hsm2 : Same w₁ W2 := by rw [← hW2]; exact ⟨rfl, rfl, rfl, by simp⟩
      have hlT : w.heap.size + 1 ∉ T := fun h => by have := (hT _ h).1; omega
      have hDT : w.heap.size ∉ T := fun h => by have := (hT _ h).1; omega
      refine wpIn_mono (wpIn_n (hbody W2 hsm2 hs2 ho2)) ?_
      rintro e a₃ W3 ⟨rfl, hf3, Z', hi3, hz3⟩
      have hl3 : W3.heap[w.heap.size + 1]? = some (.loop { rec .ready none with state := .busy }) := (hf3.block _ (by omega) hlT).trans hl2
      have hk3 : W3.heap[w.heap.size]? = some (.deferred (some [])) := (hf3.block _ (by omega) hDT).trans hk2
      have hlt3 : w.heap.size + 1 < W3.heap.size := (Array.getElem?_eq_some_iff.1 hl3).1
      have hend := run_endRound (P := P) none hl3
      rw [hrec] at hend
      have hZ'n : ∀ k, Z' k → k ≠ w.heap.size + 1 ∧ k ≠ w.heap.size := fun k hk => by
        rcases (hz3 k hk).1 with h | h | h
        · exact e2 k h
        · have := (hv k h).2
          exact ⟨fun e => this (by simp [e]), fun e => this (by simp [e])⟩
        · omega
      refine ⟨_, _, hend, rfl, ?_, fun k => Z' k ∨ k = w.heap.size + 1 ∨ k = w.heap.size, ⟨Z', fun _ => Iff.rfl, hZ'n, ?_, ?_, ?_⟩, fun k hk => ?_⟩
      · refine Fr.putObj (Fr.trans' (w := W2) ?_ hf3 (fun k _ h => by simp [h])) (.inr (by simp)) _
        exact ⟨hsm2.os.trans hfr.os, hsm2.tape.trans hfr.tape, hsm2.output.trans hfr.output, by rw [hs2]; exact hfr.size, fun k hk hn => (ho2 k fun e => hn (by simp [e])).trans (hfr.block k hk (by simp))⟩
      · exact hst _ _ W3 _ (fun k hk => World.putObj_heap_other (hZ'n k hk).1) (by simp) hi3
      · rw [World.putObj_heap_same hlt3, hrec]; simp
      · exact (World.putObj_heap_other (by omega)).trans hk3
      · rw [World.putObj_size]
        rcases hk with hk | rfl | rfl
        · refine ⟨?_, (hz3 k hk).2⟩
          rcases (hz3 k hk).1 with h | h | h
          · exact .inl ((e1 k).2 (.inl h))
          · exact .inr (.inl h)
          · exact .inr (.inr h)
        · exact ⟨.inl ((e1 _).2 (.inr (.inl rfl))), hlt3⟩
        · exact ⟨.inl ((e1 _).2 (.inr (.inr rfl))), by omega⟩
    · rintro e W2 ⟨⟨v, rfl⟩, hfr, Z', ⟨Zi, e1, e2, e3, hl, hk⟩, hZlt⟩
      have hend := run_endLoop (P := P) hl (by rw [hrec]; simp)
      rw [hrec] at hend
      refine ⟨none, _, hend, hdone Zi _ ?_ (hst _ _ W2 _ (fun k hk => World.putObj_heap_other (e2 k hk).1) (by simp) e3) (fun k hk => ⟨by rw [World.putObj_size]; exact hZlt k ((e1 k).2 (.inl hk)), (e2 k hk).2⟩) ((World.putObj_heap_other (by omega)).trans hk)⟩
      refine Fr.putObj ?_ (.inl (by omega)) _
      have hb : Fr w T W1 := (Fr.of_below hB1).more (by simp)
      exact hb.trans' hfr fun k hk h => by
        rcases List.mem_cons.1 h with rfl | h
        · omega
        rcases List.mem_cons.1 h with rfl | h
        · omega
        · exact h
/-! ### The call of yield -/
section
variable {P : Program} {E : Env} {K : Exit → St → Prop} {T : Tab}
theorem yield_run {ρ : Val} {st : St} {a : Act} {w : World} (hs : Sat E ρ st a w) {o : Oper} {c : Call} {y z : Operand} {l : Nat} {av : AV} (hop : o.op = .call c) (hc : c.callee = .value y) (ha : c.args = #[z]) (hy : evT st.t y = .v (.c (.k (.func (.yield l) #[] #[])))) (hz : evT st.t z = .v av) :
    (execOp a.eval o).run P w = (Instr.yield l #[av.conc ρ]).run P w ∧ av.ok ρ st.m := by
  have h1 := hs.eval y
  rw [show st.ev y = _ from hy] at h1
  have h2 := hs.eval z
  rw [show st.ev z = _ from hz] at h2
  have h1' : a.eval y = .func (.yield l) #[] #[] := h1.2
  have h2' : a.eval z = av.conc ρ := h2.2
  refine ⟨?_, h2.1⟩
  simp only [execOp, hop, resolve, hc, ha, Sem.run_bind, Deferred.ofValue, h1', Sem.run_pure, Result.andThen_ok, invoke]
  simp [h2']
/-- What a round leaves as it is. -/
def Blk.calm (T : List Nat) (N : Nat) : Blk → Prop
  | .say S _ => ∀ k ∈ T, ¬ S k
  | .ro _ n _ => n = 0
  | _ => True
theorem SatM.yielded {ρ : Val} {m : Mem} {w w' : World} (h : SatM E ρ m w) {T : List Nat} {xJ : Nat} {Z Z' : Nat → Prop} {R R' : World → Prop} (hE : E.bor = borT 1000 T) (hT : ∀ k ∈ T, k < E.w0.heap.size) (hfr : Fr w T w') (hx : m xJ = some (.say Z R)) {V : Nat → Prop}
    (hcalm : ∀ y b, y ≠ xJ → m y = some b → y < 1000 ∧ Blk.calm T 0 b) (hV : ∀ y b, m y = some b → b.own → ¬ V (ρ y).1) (hr : R' w') (hst : Steady Z' R') (hZ : ∀ k, Z' k → (Z k ∨ V k ∨ w.heap.size ≤ k) ∧ k < w'.heap.size) :
    SatM E ρ (up m xJ (some (.say Z' R'))) w' := by
  have hbs : E.bor.map (·.2) = T := by rw [hE, borT_snd]
  refine h.swap (h.fr.trans' hfr fun k _ hk => by rw [hbs]; exact hk) hfr.size (fun z hz => isSome_up z hz) fun z b hz => ?_
  by_cases e : z = xJ
  · subst e
    rw [up_same] at hz
    injection hz with hz
    subst hz
    refine .inr (.inl ⟨_, _, rfl, hr, fun k hk => (hZ k hk).2, hst, fun y c hy hc ho hk => ?_⟩)
    rw [up_other _ _ hy] at hc
    rcases (hZ _ hk).1 with h1 | h1 | h1
    · exact h.ne y z c _ hc hx ho trivial hy h1
    · exact hV y c hc ho h1
    · have := h.lt hc ho; omega
  · rw [up_other _ _ e] at hz
    refine .inl ⟨hz, fun k hl hk => hfr.block k ?_ ?_⟩
    · exact h.lt' hz hl hk
    · intro hkT
      obtain ⟨hb1, hb2⟩ := hcalm z b e hz
      cases b with
      | say S R => exact hb2 k hkT hk
      | ro sz n el => exact absurd (show 0 < n from hl) (by rw [show n = 0 from hb2]; omega)
      | _ =>
        have hp := h.ownGe hz trivial
        rw [show k = (ρ z).1 from hk] at hkT
        rcases hp with hp | hp
        · have := hT _ hkT; omega
        · rw [hE] at hp
          have := (borT_mem hp).1
          simp only at this
          omega
/-- A call of yield in a region without an order to draw. -/
theorem GO.yield {α : Type} {ops : Array Oper} {rest : List Oper} {o : Oper} {c : Call} {y z : Operand} {l : Nat} {av : AV} {t : Nat → TV} {m : Mem} {L : List Nat} {Rel : α → World → Value → Prop} {xs : List α} {J : List α → (Nat → Prop) → World → Prop} (xJ : Nat) (s : List α) (x : α) (Z : Nat → Prop)
    (hR : Rounds P l L Rel xs J E.w0) (hxs : x ∈ xs) (hE : E.bor = borT 1000 L) (hT : ∀ k ∈ L, k < E.w0.heap.size) (hx : m xJ = some (.say Z (J s Z)))
    (hg : o.guard = none) (hop : o.op = .call c) (hc : c.callee = .value y) (ha : c.args = #[z]) (hy : evT t y = .v (.c (.k (.func (.yield l) #[] #[])))) (hz : evT t z = .v av) (hd : dstOk E.N o.dst = true)
    (hcalm : ∀ y b, y ≠ xJ → m y = some b → y < 1000 ∧ Blk.calm L 0 b)
    (hrel : ∀ ρ w, SatM E ρ m w → av.ok ρ m → Rel x w (av.conc ρ) ∧ (∀ k, vbk (av.conc ρ) k → k < w.heap.size ∧ k ∉ L ∧ ∀ y b, m y = some b → b.own → (ρ y).1 ≠ k))
    (k : ∀ Z', GO P E ops K rest ⟨Sx.putT t o.dst (.v (.c (.k (.bool true)))), up m xJ (some (.say Z' (J (s ++ [x]) Z')))⟩) : GO P E ops K (o :: rest) ⟨t, m⟩ := by
  intro ρ a w hs
  unfold wpL
  rw [if_pos (by simp [Region.wanted, hg])]
  refine .inr ?_
  obtain ⟨hrun, hok⟩ := yield_run hs hop hc ha hy hz
  obtain ⟨j1, j2, j3⟩ := hs.mem.ok _ _ hx
  obtain ⟨r1, r2⟩ := hrel ρ w hs.mem hok
  obtain ⟨fn, tmps, assign, body, h1, h2⟩ := hR.2 s x _ Z w hxs hs.mem.fr.same j1 j2 r1 fun k hk => ⟨(r2 k hk).1, (r2 k hk).2.1⟩
  refine ⟨l, fn, tmps, assign, body, w, hrun.trans h1, RoundIn.mono h2 ?_⟩
  rintro e W' ⟨rfl, hfr, Z', hj, hZ⟩
  refine ⟨_, rfl, k Z' ρ _ W' ((hs.remem0 (hs.mem.yielded hE hT hfr hx hcalm (V := vbk (av.conc ρ)) (fun y b hy ho hk => (r2 _ hk).2.2 y b hy ho rfl) hj (hR.1 _ _) hZ) fun z hz => isSome_up z hz).putT (dstOk_lt hd) ⟨trivial, rfl⟩)⟩
/-- The same under a guard. -/
theorem GO.yieldT {α : Type} {ops : Array Oper} {rest : List Oper} {o : Oper} {c : Call} {y z : Operand} {l j : Nat} {want cb : Bool} {av : AV} {t : Nat → TV} {m : Mem} {L : List Nat} {Rel : α → World → Value → Prop} {xs : List α} {J : List α → (Nat → Prop) → World → Prop} (xJ : Nat) (s : List α) (x : α) (Z : Nat → Prop)
    (hR : Rounds P l L Rel xs J E.w0) (hxs : cb = true → x ∈ xs) (hE : E.bor = borT 1000 L) (hT : ∀ k ∈ L, k < E.w0.heap.size) (hx : m xJ = some (.say Z (J s Z)))
    (hg : o.guard = some (j, want)) (hb : guardB ops t j want = some cb) (hob : AllP (stripObs t j want cb (slotsOf o.op.operands.toList))) (hop : o.op = .call c) (hc : c.callee = .value y) (ha : c.args = #[z])
    (hy : evT (tG t j want (slotsOf o.op.operands.toList)) y = .v (.c (.k (.func (.yield l) #[] #[])))) (hz : evT (tG t j want (slotsOf o.op.operands.toList)) z = .v av) (hd : dstOk E.N o.dst = true)
    (hcalm : cb = true → ∀ y b, y ≠ xJ → m y = some b → y < 1000 ∧ Blk.calm L 0 b)
    (hrel : cb = true → ∀ ρ w, SatM E ρ m w → av.ok ρ m → Rel x w (av.conc ρ) ∧ (∀ k, vbk (av.conc ρ) k → k < w.heap.size ∧ k ∉ L ∧ ∀ y b, m y = some b → b.own → (ρ y).1 ≠ k))
    (k : ∀ Z', GO P E ops K rest ⟨Sx.putT t o.dst (.grd j want cb (.c (.k (.bool true)))), up m xJ (some (.say Z' (J (bif cb then s ++ [x] else s) Z')))⟩) : GO P E ops K (o :: rest) ⟨t, m⟩ := by
  intro ρ a w hs
  have hw := wanted_cond (ops := ops) hs hg hb
  unfold wpL
  rw [hw]
  cases hcb : cb with
  | false =>
    subst hcb
    rw [if_neg (by simp)]
    have := hs.putT (dstOk_lt hd) (tv := .grd j want false (.c (.k (.bool true)))) (v := undef) ⟨fun ht => (by cases ht), fun _ => rfl⟩
    refine k Z ρ _ w ?_
    have e : up m xJ (some (.say Z (J s Z))) = m := by
      funext q
      by_cases e : q = xJ
      · subst e; rw [up_same, hx]
      · rw [up_other _ _ e]
    simp only [cond_false, e]
    exact this
  | true =>
    subst hcb
    rw [if_pos rfl]
    refine .inr ?_
    obtain ⟨hrun, hok⟩ := yield_run (hs.tG hob rfl) hop hc ha hy hz
    obtain ⟨j1, j2, j3⟩ := hs.mem.ok _ _ hx
    obtain ⟨r1, r2⟩ := hrel rfl ρ w hs.mem hok
    obtain ⟨fn, tmps, assign, body, h1, h2⟩ := hR.2 s x _ Z w (hxs rfl) hs.mem.fr.same j1 j2 r1 fun k hk => ⟨(r2 k hk).1, (r2 k hk).2.1⟩
    refine ⟨l, fn, tmps, assign, body, w, hrun.trans h1, RoundIn.mono h2 ?_⟩
    rintro e W' ⟨rfl, hfr, Z', hj, hZ⟩
    refine ⟨_, rfl, k Z' ρ _ W' ((hs.remem0 (hs.mem.yielded hE hT hfr hx (hcalm rfl) (V := vbk (av.conc ρ)) (fun y b hy ho hk => (r2 _ hk).2.2 y b hy ho rfl) hj (hR.1 _ _) hZ) fun z hz => isSome_up z hz).putT (dstOk_lt hd) ⟨fun _ => ⟨trivial, rfl⟩, fun h => by cases h⟩)⟩
end
end Go.Sx
