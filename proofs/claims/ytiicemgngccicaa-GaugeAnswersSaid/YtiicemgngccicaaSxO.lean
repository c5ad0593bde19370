/- The symbolic executor, part O: append onto nothing, empty slices. Generic over P. -/
import Derived.Test.YtiicemgngccicaaSxN
import Derived.ArgAppend
set_option linter.unusedVariables false
set_option linter.unusedSimpArgs false
namespace Go.Sx
open Go.RowKit
/-- What append asks of an element's type. -/
structure ApT (P : Program) (t e size bytes : Nat) (z : Value) : Prop where
  ht : P.underlying t = some (.slice e)
  hi : (P.info? e).map (fun i => (i.zero, i.size, i.bytes)) = some (some z, size, bytes)
  hz : z.cells.size = size
  pos : 0 < size
theorem ApT.info {P : Program} {t e size bytes : Nat} {z : Value} (h : ApT P t e size bytes z) : ∃ i, P.info? e = some i ∧ i.zero = some z ∧ i.size = size ∧ i.bytes = bytes := by
  have := h.hi
  cases hx : P.info? e with
  | none => rw [hx] at this; cases this
  | some i =>
    rw [hx] at this
    simp only [Option.map_some, Option.some.injEq, Prod.mk.injEq] at this
    exact ⟨i, rfl, this.1, this.2.1, this.2.2⟩
/-- the cells of n elements, as a list, with what lies there -/
theorem rd_flat {w : World} {b o n sz : Nat} {el : Nat → List Value} (h : ∀ i, i < n → (el i).length = sz ∧ ∀ j, j < sz → w.cell? ⟨b, o + (i * sz + j), none⟩ = (el i)[j]?) :
    (flatE el 0 n).length = n * sz ∧ ∀ j u, (flatE el 0 n)[j]? = some u → w.cell? ((⟨b, o, none⟩ : Addr).add j) = some u := by
  have hl := flatE_len (el := el) (sz := sz) n 0 fun k _ hk => (h k (by omega)).1
  refine ⟨hl, fun j u hj => ?_⟩
  have hlt : j < n * sz := by have := (List.getElem?_eq_some_iff.1 hj).1; omega
  have := flatE_get (el := el) (sz := sz) n 0 (fun k _ hk => (h k (by omega)).1) (fun g => w.cell? ⟨b, o + g, none⟩) (fun k _ hk j hj => (h k (by omega)).2 j hj) j hlt
  rw [Addr.add_lit, ← hj, this]
  congr 2
  omega
section
variable {P : Program} {E : Env} {K : Exit → St → Prop} {T : Tab} {ops : Array Oper} {rest : List Oper}
theorem GO.emptySlice {o : Oper} {t e d : Nat} {t0 : Nat → TV} {m : Mem} {dd : TyD} (hT : Tab.fine P T) (hg : o.guard = none) (hop : o.op = .buildSlice t 0 #[]) (hd : o.dst = some d) (hdN : Nat.blt d E.N = true) (ht : T t = some dd) (hk : dd.kind = .slice e) {de : TyD} (he : T e = some de)
    (k : ∀ A, GO P E ops K rest ⟨up t0 d (.v (.c (.k (.slice A 0 0)))), m⟩) : GO P E ops K (o :: rest) ⟨t0, m⟩ := by
  intro ρ a w hs
  have hkind := (hT.ok t dd ht).kind
  rw [hk] at hkind
  have hsz := (hT.ok e de he).size w
  have hrun : (execOp a.eval o).run P w = .ok (.value (.slice (some ⟨w.heap.size, 0, none⟩) 0 0)) (w.alloc (.cells #[] e)) := by
    simp [execOp, hop, Instr.buildSlice, hkind w, hsz, Instr.fill, newRow]
    rw [show (w.alloc (.cells #[] e)) = w.alloc (.cells (Array.map (fun _ => (default : Value)) (Array.range 0)) e) by rw [show (Array.map (fun _ => (default : Value)) (Array.range 0)) = #[] from by apply Array.toList_inj.1; simp]]
  unfold wpList
  rw [if_pos (by simp [Region.wanted, hg])]
  refine .inl ?_
  unfold Oper.wp
  rw [hrun]
  refine k (some ⟨w.heap.size, 0, none⟩) ρ _ _ ?_
  rw [hd]
  exact (hs.below ((Below.refl _ _).alloc (Nat.le_refl _) _)).put (by simpa [Nat.blt_eq] using hdN) ⟨trivial, rfl⟩
/-- A row that can be read, as an operand's value tells it. -/
def RowOf (P : Program) (E : Env) (m : Mem) (n sz : Nat) (el : Nat → List Value) (av : AV) : Prop := ∀ ρ w, SatM E ρ m w → av.ok ρ m → ∃ B c, av.conc ρ = .slice B n c ∧ RdRow w B n sz el
theorem RowOf.ro {m : Mem} {x n sz c : Nat} {A : Option Addr} {el : Nat → List Value} (hx : m x = some (.ro sz n el)) : RowOf P E m n sz el (.c (.inp x A n c)) :=
  fun ρ w hs ho => ⟨A, c, rfl, hs.row hx ho⟩
theorem RowOf.var {m : Mem} {x n sz c : Nat} {ty : TypeId} {vs : List Value} (hx : m x = some (.var ty (vs.map .k))) (hl : n * sz ≤ vs.length) : RowOf P E m n sz (fun i => (vs.drop (i * sz)).take sz) (.c (.slc x 0 sz n c)) := by
  intro ρ w hs ho
  refine ⟨_, c, rfl, ?_⟩
  have := hs.rdVar (sz := sz) hx 0 n (by simpa using hl)
  simpa using this
theorem RowOf.arr {m : Mem} {x n sz c n2 room : Nat} {ty : TypeId} {el : Nat → List Value} (hx : m x = some (.arr ty sz n2 el room)) (hl : n ≤ n2) : RowOf P E m n sz el (.c (.slc x 0 sz n c)) := by
  intro ρ w hs ho
  refine ⟨_, c, rfl, ?_⟩
  have := hs.rdArr hx 0 n (by omega)
  simpa using this
theorem append_new {t ty e size bytes : Nat} {z : Value} (h : ApT P t e size bytes z) {w : World} {A B : Option Addr} {n c : Nat} {el : Nat → List Value} (hr : RdRow w B n size el) (h1 : ∀ i, i < n → ∀ u ∈ el i, u.oneCell' = true) (b1 : n ≤ maxLen) (b2 : n * bytes ≤ 140737488355328) :
    (n = 0 ∧ (Builtin.append_ #[t, t] ty #[.slice A 0 0, .slice B n c]).run P w = .ok (.slice A 0 0) w) ∨
    (0 < n ∧ ∃ v' w', (Builtin.append_ #[t, t] ty #[.slice A 0 0, .slice B n c]).run P w = .ok v' w' ∧ w'.ownsRow w.heap.size e size v' n (flatE el 0 n) ∧ w.grownBy w' none) := by
  obtain ⟨i, hi, hz, hs, hb⟩ := h.info
  by_cases h0 : n = 0
  · subst h0
    refine .inl ⟨rfl, ?_⟩
    cases A <;> cases B <;> simp [Builtin.append_, run_underlying h.ht, sizeOf, typeInfo, hi, Builtin.lenOf, Builtin.firstCells, loadCells, loadCellsFrom, storeCells]
  · refine .inr ⟨by omega, ?_⟩
    obtain ⟨b, o, rfl, _, h3⟩ := hr (by omega)
    obtain ⟨f1, f2⟩ := rd_flat h3
    have hone : ∀ u ∈ flatE el 0 n, u.oneCell' = true := by
      intro u hu
      obtain ⟨j, hj⟩ := List.mem_iff_getElem?.1 hu
      have : ∀ (k i : Nat), (∀ q, i ≤ q → q < i + k → q < n) → ∀ u ∈ flatE el i k, u.oneCell' = true := by
        intro k
        induction k with
        | zero => intro i _ u hu; cases hu
        | succ k ih =>
          intro i hq u hu
          rw [flatE, List.mem_append] at hu
          rcases hu with hu | hu
          · exact h1 i (hq i (Nat.le_refl _) (by omega)) u hu
          · exact ih (i + 1) (fun q h1 h2 => hq q (by omega) (by omega)) u hu
      exact this n 0 (fun q _ h2 => by omega) u hu
    cases A with
    | none =>
      obtain ⟨v', w', hrun, r1, r2, _⟩ := run_append_own (P := P) w w.heap.size t ty e i z size bytes h.ht hi hz hs hb h.hz h.pos (.slice none 0 0) 0 [] (World.ownsRow_nil w _ e size) ⟨b, o, none⟩ n c (flatE el 0 n) f1 f2 hone (by omega) (by rw [Nat.zero_add]; exact b2) (Nat.le_refl _)
      exact ⟨v', w', hrun, by simpa using r1, r2⟩
    | some a =>
      obtain ⟨v', w', hrun, r1, r2⟩ := run_append_arg_grows (P := P) w t ty e i z size bytes h.ht hi hz hs hb h.hz h.pos a 0 0 [] (by simp) (fun j u hj => by simp at hj) ⟨b, o, none⟩ n c (flatE el 0 n) f1 f2 (by omega) (by omega) (by rw [Nat.zero_add]; exact b2)
      exact ⟨v', w', hrun, by simpa using r1, r2⟩
theorem flatE_at {el : Nat → List Value} {sz : Nat} {n : Nat} (h : ∀ k, k < n → (el k).length = sz) {i : Nat} (hi : i < n) {j : Nat} (hj : j < sz) : (flatE el 0 n)[i * sz + j]? = (el i)[j]? := by
  have hlt : i * sz + j < n * sz := by
    have := Nat.mul_le_mul_right sz (show i + 1 ≤ n from hi)
    rw [Nat.add_mul] at this
    omega
  have := flatE_get (el := el) (sz := sz) n 0 (fun k _ hk => h k (by omega)) (fun g => (el (g / sz))[g % sz]?) (fun k _ hk j hj => by
    have : 0 < sz := by omega
    show (el ((k * sz + j) / sz))[(k * sz + j) % sz]? = _
    rw [Nat.mul_comm k sz, Nat.mul_add_div this, Nat.div_eq_of_lt hj, Nat.mul_add_mod, Nat.mod_eq_of_lt hj, Nat.add_zero]) (i * sz + j) hlt
  rw [this]
  have : 0 < sz := by omega
  show (el ((0 * sz + (i * sz + j)) / sz))[(0 * sz + (i * sz + j)) % sz]? = _
  rw [Nat.zero_mul, Nat.zero_add, Nat.mul_comm i sz, Nat.mul_add_div this, Nat.div_eq_of_lt hj, Nat.mul_add_mod, Nat.mod_eq_of_lt hj, Nat.add_zero]
/-- A row that append has made, under a name that is free. -/
theorem SatM.newOwn {ρ : Val} {m : Mem} {w w' : World} (h : SatM E ρ m w) {x : Nat} (hx : m x = none) (hxb : x < 1000) {e sz n : Nat} {el : Nat → List Value} {v : Value} (hlen : ∀ k, k < n → (el k).length = sz) (hn : 0 < n)
    (hr : w'.ownsRow w.heap.size e sz v n (flatE el 0 n)) (hg : w.grownBy w' none) :
    ∃ ρ' c, n ≤ c ∧ (∀ y, (m y).isSome = true → ρ' y = ρ y) ∧ SatM E ρ' (up m x (some (.arr e sz n el ((c - n) * sz)))) w' ∧ v = AC.conc ρ' (.slc x 0 sz n c) := by
  have hb : Below w.heap.size w w' := ⟨hg.os, hg.tape, hg.output, hg.size, fun k hk => hg.block k hk (by simp)⟩
  have h' := h.below hb
  rcases hr.2 with ⟨rfl, rfl⟩ | ⟨g, c, cur, rfl, hbg, hgg, hnc, hcm, hcs, htake⟩
  · omega
  refine ⟨up ρ x (g, 0), c, hnc, ?_⟩
  have hρ : ∀ y, (m y).isSome = true → up ρ x (g, 0) y = ρ y := fun y hy => up_other _ _ (fun e => by subst e; simp [hx] at hy)
  refine ⟨hρ, ⟨h'.fr, fun q hq => ?_, fun y b hy => ?_, fun y z b d hy hz hc hd hne => ?_⟩, ?_⟩
  · have := h.bo q hq
    rw [up_other _ _ (by omega)]; exact this
  · by_cases ey : y = x
    · subst ey
      rw [up_same] at hy
      injection hy with hy
      subst hy
      refine ⟨by rw [up_same], .inl (by rw [up_same]; exact Nat.le_trans h.fr.size hbg), cur, by rw [up_same]; exact hgg, ?_, fun i hi => ⟨hlen i hi, fun j hj => ?_⟩⟩
      · rw [hcs, ← Nat.add_mul]
        exact Nat.mul_le_mul_right _ (by omega)
      · rw [← flatE_at hlen hi hj, ← htake, List.getElem?_take, if_pos (by
          have := Nat.mul_le_mul_right sz (show i + 1 ≤ n from hi)
          rw [Nat.add_mul] at this
          omega)]
        simp
    · rw [up_other _ _ ey] at hy
      have hk := h'.ok y b hy
      have e2 : up ρ x (g, 0) y = ρ y := up_other _ _ ey
      cases b with
      | var ty cells =>
        have hcm : cells.map (AC.conc (up ρ x (g, 0))) = cells.map (AC.conc ρ) := List.map_congr_left fun c hm => AC.conc_mono hρ (hk.2.2.2 c hm)
        exact ⟨by rw [e2]; exact hk.1, by rw [e2]; exact hk.2.1, by rw [e2, hcm]; exact hk.2.2.1, fun c hc => AC.ok_mono (fun z hz => isSome_up z hz) hρ (hk.2.2.2 c hc)⟩
      | arr ty sz n el room =>
        obtain ⟨h1, h2, a, ha, hs, he⟩ := hk
        exact ⟨by rw [e2]; exact h1, by rw [e2]; exact h2, a, by rw [e2]; exact ha, hs, he⟩
      | ro sz n el =>
        intro hn
        rw [e2]
        exact hk hn
  · by_cases e1 : y = x
    · by_cases e2 : z = x
      · exact absurd (e1.trans e2.symm) hne
      · rw [up_other _ _ e2] at hz
        have := h.lt' hz hd
        subst e1
        rw [up_same, up_other _ _ e2]
        show g ≠ _
        omega
    · rw [up_other _ _ e1] at hy
      by_cases e2 : z = x
      · have := h.lt hy hc
        subst e2
        rw [up_same, up_other _ _ e1]
        show _ ≠ g
        omega
      · rw [up_other _ _ e2] at hz
        rw [up_other _ _ e1, up_other _ _ e2]
        exact h.ne y z b d hy hz hc hd hne
  · simp [AC.conc, up_same]
/-- append onto nothing. -/
theorem GO.appendNew {o : Oper} {s x : Operand} {t e size bytes d n : Nat} {z : Value} {t0 : Nat → TV} {m : Mem} {A : Option Addr} {av : AV} (el : Nat → List Value) (hp : ApT P t e size bytes z) (hg : o.guard = none) (hop : o.op = .call { callee := .builtin .append, args := #[s, x], argTypes := #[t, t] })
    (hd : o.dst = some d) (hdN : Nat.blt d E.N = true) (hdb : Nat.blt d 1000 = true) (hfree : m d = none) (hs : evT t0 s = .v (.c (.k (.slice A 0 0)))) (hx : evT t0 x = .v av) (hrow : RowOf P E m n size el av)
    (hlen : ∀ k, k < n → (el k).length = size) (h1 : ∀ i, i < n → ∀ u ∈ el i, u.oneCell' = true) (b1 : n ≤ maxLen) (b2 : n * bytes ≤ 140737488355328)
    (k0 : n = 0 → GO P E ops K rest ⟨up t0 d (.v (.c (.k (.slice A 0 0)))), m⟩) (k1 : 0 < n → ∀ c, n ≤ c → GO P E ops K rest ⟨up t0 d (.v (.c (.slc d 0 size n c))), up m d (some (.arr e size n el ((c - n) * size)))⟩) : GO P E ops K (o :: rest) ⟨t0, m⟩ := by
  intro ρ a w hsat
  have es : a.eval s = .slice A 0 0 := by have := hsat.eval s; simp only [St.ev, hs] at this; exact this.2
  have ex := hsat.eval x
  simp only [St.ev, hx] at ex
  obtain ⟨B, c, e3, hr⟩ := hrow ρ w hsat.mem ex.1
  have ex : a.eval x = .slice B n c := ex.2.trans e3
  unfold wpList
  rw [if_pos (by simp [Region.wanted, hg])]
  refine .inl ?_
  unfold Oper.wp
  rcases append_new (ty := o.type) hp (A := A) (c := c) hr h1 b1 b2 with ⟨h0, hrun⟩ | ⟨h0, v', w', hrun, r1, r2⟩
  · have : (execOp a.eval o).run P w = .ok (.value (.slice A 0 0)) w := by
      simp [execOp, hop, resolve, invoke, builtin, es, ex, hrun, Result.andThen]
    rw [this]
    refine k0 h0 ρ _ w ?_
    rw [hd]
    exact hsat.put (by simpa [Nat.blt_eq] using hdN) ⟨trivial, rfl⟩
  · have : (execOp a.eval o).run P w = .ok (.value v') w' := by
      simp [execOp, hop, resolve, invoke, builtin, es, ex, hrun, Result.andThen]
    rw [this]
    obtain ⟨ρ', c', h2, h3, h4, h5⟩ := hsat.mem.newOwn hfree (by simpa [Nat.blt_eq] using hdb) hlen h0 r1 r2
    refine k1 h0 c' h2 ρ' _ w' ?_
    rw [hd]
    refine (hsat.move h4 (fun y hy => isSome_up y hy) h3).put (by simpa [Nat.blt_eq] using hdN) ⟨?_, h5⟩
    show (up m d _ d).isSome = true
    rw [up_same]; rfl
end
end Go.Sx
