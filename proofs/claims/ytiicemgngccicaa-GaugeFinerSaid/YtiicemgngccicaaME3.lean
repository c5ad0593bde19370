/- The symbolic executor, part Y: functions that answer a struct whose first part is a row, and calls of them. Generic over P. -/
import Derived.Test.YtiicemgngccicaaME2
import Derived.ArgAppend
import Derived.Laws.StructEq
/- The symbolic executor, part O: append onto nothing, empty slices. Generic over P. -/
set_option linter.unusedVariables false
set_option linter.unusedSimpArgs false
namespace Go.Sx
open Go.RowKit
/-- What append asks of an element's type. -/
structure ApT (P : Program) (t e size bytes : Nat) (z : Value) : Prop where
  ht : P.underlying t = some (.slice e)
  hi : (P.info? e).map (fun i => (i.zero, i.size, i.bytes)) = some (some z, size, bytes)
  hz : z.cells.size = size
  pos : 0 < size
theorem ApT.info {P : Program} {t e size bytes : Nat} {z : Value} (h : ApT P t e size bytes z) : ∃ i, P.info? e = some i ∧ i.zero = some z ∧ i.size = size ∧ i.bytes = bytes := by
  have := h.hi
  cases hx : P.info? e with
  | none => rw [hx] at this; cases this
  | some i =>
    rw [hx] at this
    simp only [Option.map_some, Option.some.injEq, Prod.mk.injEq] at this
    exact ⟨i, rfl, this.1, this.2.1, this.2.2⟩
/-- the cells of n elements, as a list, with what lies there -/
theorem rd_flat {w : World} {b o n sz : Nat} {el : Nat → List Value} (h : ∀ i, i < n → (el i).length = sz ∧ ∀ j, j < sz → w.cell? ⟨b, o + (i * sz + j), none⟩ = (el i)[j]?) :
    (flatE el 0 n).length = n * sz ∧ ∀ j u, (flatE el 0 n)[j]? = some u → w.cell? ((⟨b, o, none⟩ : Addr).add j) = some u := by
  have hl := flatE_len (el := el) (sz := sz) n 0 fun k _ hk => (h k (by omega)).1
  refine ⟨hl, fun j u hj => ?_⟩
  have hlt : j < n * sz := by have := (List.getElem?_eq_some_iff.1 hj).1; omega
  have := flatE_get (el := el) (sz := sz) n 0 (fun k _ hk => (h k (by omega)).1) (fun g => w.cell? ⟨b, o + g, none⟩) (fun k _ hk j hj => (h k (by omega)).2 j hj) j hlt
  rw [Addr.add_lit, ← hj, this]
  congr 2
  omega
section
variable {P : Program} {E : Env} {K : Exit → St → Prop} {T : Tab} {ops : Array Oper} {rest : List Oper}
theorem GO.emptySlice {o : Oper} {t e d : Nat} {t0 : Nat → TV} {m : Mem} {dd : TyD} (hT : Tab.fine P T) (hg : o.guard = none) (hop : o.op = .buildSlice t 0 #[]) (hd : o.dst = some d) (hdN : Nat.blt d E.N = true) (ht : T t = some dd) (hk : dd.kind = .slice e) {de : TyD} (he : T e = some de)
    (k : ∀ A, GO P E ops K rest ⟨up t0 d (.v (.c (.k (.slice A 0 0)))), m⟩) : GO P E ops K (o :: rest) ⟨t0, m⟩ := by
  intro ρ a w hs
  have hkind := (hT.ok t dd ht).kind
  rw [hk] at hkind
  have hsz := (hT.ok e de he).size w
  have hrun : (execOp a.eval o).run P w = .ok (.value (.slice (some ⟨w.heap.size, 0, none⟩) 0 0)) (w.alloc (.cells #[] e)) := by
    simp [execOp, hop, Instr.buildSlice, hkind w, hsz, Instr.fill, newRow]
    rw [show (w.alloc (.cells #[] e)) = w.alloc (.cells (Array.map (fun _ => (default : Value)) (Array.range 0)) e) by rw [show (Array.map (fun _ => (default : Value)) (Array.range 0)) = #[] from by apply Array.toList_inj.1; simp]]
  unfold wpList
  rw [if_pos (by simp [Region.wanted, hg])]
  refine .inl ?_
  unfold Oper.wp
  rw [hrun]
  refine k (some ⟨w.heap.size, 0, none⟩) ρ _ _ ?_
  rw [hd]
  exact (hs.below ((Below.refl _ _).alloc (Nat.le_refl _) _)).put (by simpa [Nat.blt_eq] using hdN) ⟨trivial, rfl⟩
/-- A row that can be read, as an operand's value tells it. -/
def RowOf (P : Program) (E : Env) (m : Mem) (n sz : Nat) (el : Nat → List Value) (av : AV) : Prop := ∀ ρ w, SatM E ρ m w → av.ok ρ m → ∃ B c, av.conc ρ = .slice B n c ∧ RdRow w B n sz el
theorem RowOf.ro {m : Mem} {x n sz c : Nat} {A : Option Addr} {el : Nat → List Value} (hx : m x = some (.ro sz n el)) : RowOf P E m n sz el (.c (.inp x A n c)) :=
  fun ρ w hs ho => ⟨A, c, rfl, hs.row hx ho⟩
theorem RowOf.var {m : Mem} {x n sz c : Nat} {ty : TypeId} {vs : List Value} (hx : m x = some (.var ty (vs.map .k))) (hl : n * sz ≤ vs.length) : RowOf P E m n sz (fun i => (vs.drop (i * sz)).take sz) (.c (.slc x 0 sz n c)) := by
  intro ρ w hs ho
  refine ⟨_, c, rfl, ?_⟩
  have := hs.rdVar (sz := sz) hx 0 n (by simpa using hl)
  simpa using this
theorem RowOf.arr {m : Mem} {x n sz c n2 room : Nat} {ty : TypeId} {el : Nat → List Value} (hx : m x = some (.arr ty sz n2 el room)) (hl : n ≤ n2) : RowOf P E m n sz el (.c (.slc x 0 sz n c)) := by
  intro ρ w hs ho
  refine ⟨_, c, rfl, ?_⟩
  have := hs.rdArr hx 0 n (by omega)
  simpa using this
theorem append_new {t ty e size bytes : Nat} {z : Value} (h : ApT P t e size bytes z) {w : World} {A B : Option Addr} {n c : Nat} {el : Nat → List Value} (hr : RdRow w B n size el) (h1 : ∀ i, i < n → ∀ u ∈ el i, u.oneCell' = true) (b1 : n ≤ maxLen) (b2 : n * bytes ≤ 140737488355328) :
    (n = 0 ∧ (Builtin.append_ #[t, t] ty #[.slice A 0 0, .slice B n c]).run P w = .ok (.slice A 0 0) w) ∨
    (0 < n ∧ ∃ v' w', (Builtin.append_ #[t, t] ty #[.slice A 0 0, .slice B n c]).run P w = .ok v' w' ∧ w'.ownsRow w.heap.size e size v' n (flatE el 0 n) ∧ w.grownBy w' none) := by
  obtain ⟨i, hi, hz, hs, hb⟩ := h.info
  by_cases h0 : n = 0
  · subst h0
    refine .inl ⟨rfl, ?_⟩
    cases A <;> cases B <;> simp [Builtin.append_, run_underlying h.ht, sizeOf, typeInfo, hi, Builtin.lenOf, Builtin.firstCells, loadCells, loadCellsFrom, storeCells]
  · refine .inr ⟨by omega, ?_⟩
    obtain ⟨b, o, rfl, _, h3⟩ := hr (by omega)
    obtain ⟨f1, f2⟩ := rd_flat h3
    have hone : ∀ u ∈ flatE el 0 n, u.oneCell' = true := by
      intro u hu
      obtain ⟨j, hj⟩ := List.mem_iff_getElem?.1 hu
      have : ∀ (k i : Nat), (∀ q, i ≤ q → q < i + k → q < n) → ∀ u ∈ flatE el i k, u.oneCell' = true := by
        intro k
        induction k with
        | zero => intro i _ u hu; cases hu
        | succ k ih =>
          intro i hq u hu
          rw [flatE, List.mem_append] at hu
          rcases hu with hu | hu
          · exact h1 i (hq i (Nat.le_refl _) (by omega)) u hu
          · exact ih (i + 1) (fun q h1 h2 => hq q (by omega) (by omega)) u hu
      exact this n 0 (fun q _ h2 => by omega) u hu
    cases A with
    | none =>
      obtain ⟨v', w', hrun, r1, r2, _⟩ := run_append_own (P := P) w w.heap.size t ty e i z size bytes h.ht hi hz hs hb h.hz h.pos (.slice none 0 0) 0 [] (World.ownsRow_nil w _ e size) ⟨b, o, none⟩ n c (flatE el 0 n) f1 f2 hone (by omega) (by rw [Nat.zero_add]; exact b2) (Nat.le_refl _)
      exact ⟨v', w', hrun, by simpa using r1, r2⟩
    | some a =>
      obtain ⟨v', w', hrun, r1, r2⟩ := run_append_arg_grows (P := P) w t ty e i z size bytes h.ht hi hz hs hb h.hz h.pos a 0 0 [] (by simp) (fun j u hj => by simp at hj) ⟨b, o, none⟩ n c (flatE el 0 n) f1 f2 (by omega) (by omega) (by rw [Nat.zero_add]; exact b2)
      exact ⟨v', w', hrun, by simpa using r1, r2⟩
theorem flatE_at {el : Nat → List Value} {sz : Nat} {n : Nat} (h : ∀ k, k < n → (el k).length = sz) {i : Nat} (hi : i < n) {j : Nat} (hj : j < sz) : (flatE el 0 n)[i * sz + j]? = (el i)[j]? := by
  have hlt : i * sz + j < n * sz := by
    have := Nat.mul_le_mul_right sz (show i + 1 ≤ n from hi)
    rw [Nat.add_mul] at this
    omega
  have := flatE_get (el := el) (sz := sz) n 0 (fun k _ hk => h k (by omega)) (fun g => (el (g / sz))[g % sz]?) (fun k _ hk j hj => by
    have : 0 < sz := by omega
    show (el ((k * sz + j) / sz))[(k * sz + j) % sz]? = _
    rw [Nat.mul_comm k sz, Nat.mul_add_div this, Nat.div_eq_of_lt hj, Nat.mul_add_mod, Nat.mod_eq_of_lt hj, Nat.add_zero]) (i * sz + j) hlt
  rw [this]
  have : 0 < sz := by omega
  show (el ((0 * sz + (i * sz + j)) / sz))[(0 * sz + (i * sz + j)) % sz]? = _
  rw [Nat.zero_mul, Nat.zero_add, Nat.mul_comm i sz, Nat.mul_add_div this, Nat.div_eq_of_lt hj, Nat.mul_add_mod, Nat.mod_eq_of_lt hj, Nat.add_zero]
/-- A row that append has made, under a name that is free. -/
theorem SatM.newOwn {ρ : Val} {m : Mem} {w w' : World} (h : SatM E ρ m w) {x : Nat} (hx : m x = none) (hxb : x < 1000) {e sz n : Nat} {el : Nat → List Value} {v : Value} (hlen : ∀ k, k < n → (el k).length = sz) (hn : 0 < n)
    (hr : w'.ownsRow w.heap.size e sz v n (flatE el 0 n)) (hg : w.grownBy w' none) :
    ∃ ρ' c, n ≤ c ∧ (∀ y, (m y).isSome = true → ρ' y = ρ y) ∧ SatM E ρ' (up m x (some (.arr e sz n el ((c - n) * sz)))) w' ∧ v = AC.conc ρ' (.slc x 0 sz n c) := by
  have hb : Below w.heap.size w w' := ⟨hg.os, hg.tape, hg.output, hg.size, fun k hk => hg.block k hk (by simp)⟩
  have h' := h.below hb
  rcases hr.2 with ⟨rfl, rfl⟩ | ⟨g, c, cur, rfl, hbg, hgg, hnc, hcm, hcs, htake⟩
  · omega
  refine ⟨up ρ x (g, 0), c, hnc, ?_⟩
  have hρ : ∀ y, (m y).isSome = true → up ρ x (g, 0) y = ρ y := fun y hy => up_other _ _ (fun e => by subst e; simp [hx] at hy)
  refine ⟨hρ, ⟨h'.fr, fun q hq => ?_, fun y b hy => ?_, fun y z b d hy hz hc hd hne => ?_⟩, ?_⟩
  · have := h.bo q hq
    rw [up_other _ _ (by omega)]; exact this
  · by_cases ey : y = x
    · subst ey
      rw [up_same] at hy
      injection hy with hy
      subst hy
      refine ⟨by rw [up_same], .inl (by rw [up_same]; exact Nat.le_trans h.fr.size hbg), cur, by rw [up_same]; exact hgg, ?_, fun i hi => ⟨hlen i hi, fun j hj => ?_⟩⟩
      · rw [hcs, ← Nat.add_mul]
        exact Nat.mul_le_mul_right _ (by omega)
      · rw [← flatE_at hlen hi hj, ← htake, List.getElem?_take, if_pos (by
          have := Nat.mul_le_mul_right sz (show i + 1 ≤ n from hi)
          rw [Nat.add_mul] at this
          omega)]
        simp
    · rw [up_other _ _ ey] at hy
      have hk := h'.ok y b hy
      have e2 : up ρ x (g, 0) y = ρ y := up_other _ _ ey
      cases b with
      | var ty cells =>
        have hcm : cells.map (AC.conc (up ρ x (g, 0))) = cells.map (AC.conc ρ) := List.map_congr_left fun c hm => AC.conc_mono hρ (hk.2.2.2 c hm)
        exact ⟨by rw [e2]; exact hk.1, by rw [e2]; exact hk.2.1, by rw [e2, hcm]; exact hk.2.2.1, fun c hc => AC.ok_mono (fun z hz => isSome_up z hz) hρ (hk.2.2.2 c hc)⟩
      | arr ty sz n el room =>
        obtain ⟨h1, h2, a, ha, hs, he⟩ := hk
        exact ⟨by rw [e2]; exact h1, by rw [e2]; exact h2, a, by rw [e2]; exact ha, hs, he⟩
      | obj Q =>
        obtain ⟨h1, h2, a, ha, hs⟩ := hk
        exact ⟨by rw [e2]; exact h1, by rw [e2]; exact h2, a, by rw [e2]; exact ha, hs⟩
      | ro sz n el =>
        intro hn
        rw [e2]
        exact hk hn
  · by_cases e1 : y = x
    · by_cases e2 : z = x
      · exact absurd (e1.trans e2.symm) hne
      · rw [up_other _ _ e2] at hz
        have := h.lt' hz hd
        subst e1
        rw [up_same, up_other _ _ e2]
        show g ≠ _
        omega
    · rw [up_other _ _ e1] at hy
      by_cases e2 : z = x
      · have := h.lt hy hc
        subst e2
        rw [up_same, up_other _ _ e1]
        show _ ≠ g
        omega
      · rw [up_other _ _ e2] at hz
        rw [up_other _ _ e1, up_other _ _ e2]
        exact h.ne y z b d hy hz hc hd hne
  · simp [AC.conc, up_same]
/-- append onto nothing. -/
theorem GO.appendNew {o : Oper} {s x : Operand} {t e size bytes d n : Nat} {z : Value} {t0 : Nat → TV} {m : Mem} {A : Option Addr} {av : AV} (el : Nat → List Value) (hp : ApT P t e size bytes z) (hg : o.guard = none) (hop : o.op = .call { callee := .builtin .append, args := #[s, x], argTypes := #[t, t] })
    (hd : o.dst = some d) (hdN : Nat.blt d E.N = true) (hdb : Nat.blt d 1000 = true) (hfree : m d = none) (hs : evT t0 s = .v (.c (.k (.slice A 0 0)))) (hx : evT t0 x = .v av) (hrow : RowOf P E m n size el av)
    (hlen : ∀ k, k < n → (el k).length = size) (h1 : ∀ i, i < n → ∀ u ∈ el i, u.oneCell' = true) (b1 : n ≤ maxLen) (b2 : n * bytes ≤ 140737488355328)
    (k0 : n = 0 → GO P E ops K rest ⟨up t0 d (.v (.c (.k (.slice A 0 0)))), m⟩) (k1 : 0 < n → ∀ c, n ≤ c → GO P E ops K rest ⟨up t0 d (.v (.c (.slc d 0 size n c))), up m d (some (.arr e size n el ((c - n) * size)))⟩) : GO P E ops K (o :: rest) ⟨t0, m⟩ := by
  intro ρ a w hsat
  have es : a.eval s = .slice A 0 0 := by have := hsat.eval s; simp only [St.ev, hs] at this; exact this.2
  have ex := hsat.eval x
  simp only [St.ev, hx] at ex
  obtain ⟨B, c, e3, hr⟩ := hrow ρ w hsat.mem ex.1
  have ex : a.eval x = .slice B n c := ex.2.trans e3
  unfold wpList
  rw [if_pos (by simp [Region.wanted, hg])]
  refine .inl ?_
  unfold Oper.wp
  rcases append_new (ty := o.type) hp (A := A) (c := c) hr h1 b1 b2 with ⟨h0, hrun⟩ | ⟨h0, v', w', hrun, r1, r2⟩
  · have : (execOp a.eval o).run P w = .ok (.value (.slice A 0 0)) w := by
      simp [execOp, hop, resolve, invoke, builtin, es, ex, hrun, Result.andThen]
    rw [this]
    refine k0 h0 ρ _ w ?_
    rw [hd]
    exact hsat.put (by simpa [Nat.blt_eq] using hdN) ⟨trivial, rfl⟩
  · have : (execOp a.eval o).run P w = .ok (.value v') w' := by
      simp [execOp, hop, resolve, invoke, builtin, es, ex, hrun, Result.andThen]
    rw [this]
    obtain ⟨ρ', c', h2, h3, h4, h5⟩ := hsat.mem.newOwn hfree (by simpa [Nat.blt_eq] using hdb) hlen h0 r1 r2
    refine k1 h0 c' h2 ρ' _ w' ?_
    rw [hd]
    refine (hsat.move h4 (fun y hy => isSome_up y hy) h3).put (by simpa [Nat.blt_eq] using hdN) ⟨?_, h5⟩
    show (up m d _ d).isSome = true
    rw [up_same]; rfl
end
end Go.Sx
/- Chapter 02: the copy of a row. -/
set_option linter.unusedVariables false
set_option linter.unusedSimpArgs false
namespace Go.Proofs.Ytiicemgngccicaa
open Go.Sx Go.RowKit
theorem info3 : (Try.prog.info? 3).map (fun i => (i.zero, i.size, i.bytes)) = some (some (.int .i64 0), 1, 8) := by kernel_rfl
theorem apT35 : ApT Try.prog 90 3 1 8 (.int .i64 0) := ⟨Try.underlying90, info3, rfl, by decide⟩
end Go.Proofs.Ytiicemgngccicaa
/- The symbolic executor, part Q: two structs of whole numbers and truth values, compared. Generic over P. -/
set_option linter.unusedVariables false
set_option linter.unusedSimpArgs false
namespace Go.Sx
open Go.RowKit
theorem fne {b : Bool} (h : b = false) : ¬ b = true := by rw [h]; exact Bool.false_ne_true
def leafT (P : Program) (t : TypeId) : Bool := match P.underlying t with
  | some (.int _) => true
  | some .bool => true
  | _ => false
theorem part_leaf {P : Program} {e : TypeId} (he : leafT P e = true) {xs : Array Value} {off : Nat} {v : Value} (hx : xs[off]? = some v) (w : World) : (part e xs off).run P w = .ok v w := by
  unfold leafT at he
  cases hu : P.underlying e with
  | none => simp [hu] at he
  | some d => cases d <;> simp [hu] at he <;> simp [part, isAgg, run_underlying hu, hx]
/-- The fields, one cell each, in order. -/
def flatF (P : Program) : Nat → List Field → Bool
  | _, [] => true
  | i, f :: fs => (f.name != "_") && Nat.beq f.offset i && leafT P f.type && flatF P (i + 1) fs
def fitV (P : Program) (t : TypeId) (x y : Value) : Bool := match x, y with
  | .int k _, .int k' _ => sameK k k' && (match P.underlying t with | some (.int _) => true | _ => false)
  | .bool _, .bool _ => match P.underlying t with | some .bool => true | _ => false
  | _, _ => false
def fitL (P : Program) : List Field → List Value → List Value → Bool
  | [], [], [] => true
  | f :: fs, x :: xs, y :: ys => fitV P f.type x y && fitL P fs xs ys
  | _, _, _ => false
def eqV : Value → Value → Bool
  | .int _ a, .int _ b => a == b
  | .bool a, .bool b => a == b
  | _, _ => false
def eqL : List Value → List Value → Bool
  | [x], [y] => eqV x y
  | x :: xs, y :: ys => eqV x y && eqL xs ys
  | _, _ => true
theorem eqL_cons (x y : Value) (xs ys : List Value) (hl : xs.length = ys.length) : eqL (x :: xs) (y :: ys) = (eqV x y && eqL xs ys) := by
  cases xs with
  | nil => cases ys with
    | nil => simp [eqL]
    | cons _ _ => simp at hl
  | cons _ _ => cases ys with
    | nil => simp at hl
    | cons _ _ => rfl
theorem fitL_len {P : Program} {fs : List Field} {xs ys : List Value} (h : fitL P fs xs ys = true) : xs.length = ys.length := by
  induction fs generalizing xs ys with
  | nil => cases xs <;> cases ys <;> simp_all [fitL]
  | cons f fs ih => cases xs <;> cases ys <;> simp_all [fitL]; exact ih h.2
theorem equalIn_leaf {P : Program} {t : TypeId} {x y : Value} (h : fitV P t x y = true) (d : Nat) (w : World) : (Op.equalIn (d + 1) t x y).run P w = .ok (eqV x y) w := by
  unfold fitV at h
  split at h
  · rename_i k a k' b
    simp only [Bool.and_eq_true] at h
    have hk := sameK_eq h.1
    subst hk
    split at h
    · rename_i q hu
      exact run_equalIn_int w d t k q a b hu
    · simp at h
  · rename_i a b
    split at h
    · rename_i hu
      exact run_equalIn_bool' w d t a b hu
    · cases h
  · cases h
theorem run_eqFields {P : Program} (d : Nat) (fs : List Field) (i : Nat) (pre pre' X Y : List Value) (hp : pre.length = i) (hp' : pre'.length = i) (hf : flatF P i fs = true) (hx : fitL P fs X Y = true) (w : World) :
    (Op.eqFields (d + 1) (pre ++ X).toArray (pre' ++ Y).toArray fs).run P w = .ok (eqL X Y) w := by
  induction fs generalizing i pre pre' X Y with
  | nil => cases X <;> cases Y <;> simp_all [fitL, Op.eqFields, eqL]
  | cons f fs ih =>
    cases X with
    | nil => cases Y <;> simp [fitL] at hx
    | cons x X => cases Y with
      | nil => simp [fitL] at hx
      | cons y Y =>
        simp only [fitL, Bool.and_eq_true] at hx
        simp only [flatF, Bool.and_eq_true] at hf
        have ho := Nat.eq_of_beq_eq_true hf.1.1.2
        have hn : f.name ≠ "_" := by simpa using hf.1.1.1
        have hX : (pre ++ x :: X).toArray[f.offset]? = some x := by rw [ho, ← hp]; simp
        have hY : (pre' ++ y :: Y).toArray[f.offset]? = some y := by rw [ho, ← hp']; simp
        simp only [Op.eqFields, if_pos hn, Sem.run_bind, part_leaf hf.1.2 hX w, part_leaf hf.1.2 hY w, Result.andThen_ok, equalIn_leaf hx.1 d w, Sem.run_ite, Sem.run_pure]
        rw [eqL_cons _ _ _ _ (fitL_len hx.2)]
        cases hv : eqV x y with
        | false => simp
        | true =>
          have := ih (i + 1) (pre ++ [x]) (pre' ++ [y]) X Y (by simp [hp]) (by simp [hp']) hf.2 hx.2
          rw [List.append_assoc, List.append_assoc] at this
          simpa using this
/-- A type that '==' compares cell by cell. -/
def CmpT (P : Program) (t : TypeId) (fs : Array Field) : Prop := P.underlying t = some (.struct fs) ∧ P.stoodInHeld t = false ∧ P.eqGuardType P.depth t = false ∧ flatF P 0 fs.toList = true
theorem CmpT.run {P : Program} {t : TypeId} {fs : Array Field} (h : CmpT P t fs) {X Y : List Value} (hx : fitL P fs.toList X Y = true) (w : World) : (Op.equalIn 10000 t (.agg X.toArray) (.agg Y.toArray)).run P w = .ok (eqL X Y) w := by
  have hS : P.fieldsOf t = fs := by rw [Program.fieldsOf, h.1]
  rw [show (10000 : Nat) = 9999 + 1 from rfl, run_equalIn_agg w 9999 t _ _ (by rw [hS]; exact h.1) h.2.1, hS]
  exact run_eqFields 9998 fs.toList 0 [] [] X Y rfl rfl h.2.2.2 hx w
section
variable {P : Program} {E : Env} {K : Exit → St → Prop} {T : Tab} {l : List Oper} {cls : List Nat} {X0 : List (Nat × Nat)} {base : St}
def eqR (neg : Bool) (X Y : List Value) : Bool := match neg with
  | false => eqL X Y
  | true => !(eqL X Y)
def eqOp : Bool → BinOp
  | false => .eql
  | true => .neq
theorem exec_structEq {t t' : TypeId} {fs : Array Field} {y z : Operand} {o : Oper} {X Y : List Value} (neg : Bool) (hop : o.op = .binOp (eqOp neg) t y z t') (hc : CmpT P t fs) (hx : fitL P fs.toList X Y = true) {η : Operand → Value} (hy : η y = .agg X.toArray) (hz : η z = .agg Y.toArray) (w : World) :
    (execOp η o).run P w = .ok (.value (.bool (eqR neg X Y))) w := by
  cases neg
  · simp only [execOp, hop, eqOp, eqR, hy, hz, Sem.run_bind, run_eqGuard_agg w .eql t y z _ _ hc.2.2.1, Result.andThen_ok, run_eql_struct, hc.run hx, Sem.run_pure]
  · simp only [execOp, hop, eqOp, eqR, hy, hz, Sem.run_bind, run_eqGuard_agg w .neq t y z _ _ hc.2.2.1, Result.andThen_ok, run_neq_struct, hc.run hx, Sem.run_pure]
theorem map_k_conc (ρ : Val) (X : List Value) : (AV.agg (X.map .k)).conc ρ = .agg X.toArray := by
  show Value.agg ((X.map AC.k).map (AC.conc ρ)).toArray = _
  rw [map_conc_k]
theorem Steps.structEq {ops : Array Oper} {o : Oper} {t t' : TypeId} {fs : Array Field} {y z : Operand} {C : St} (neg : Bool) (X Y : List Value) (hg : o.guard = none) (hop : o.op = .binOp (eqOp neg) t y z t') (hy : evT C.t y = .v (.agg (X.map .k))) (hz : evT C.t z = .v (.agg (Y.map .k))) (hd : dstOk E.N o.dst = true)
    (hc : CmpT P t fs) (hx : fitL P fs.toList X Y = true) : Steps P E ops o C (.v (.c (.k (.bool (eqR neg X Y))))) [] := by
  intro st hle ρ a w hs Kc Q hk
  have hs' := hs.weakT hle.t
  rw [if_pos (by simp [Region.wanted, hg])]
  have e1 : a.eval y = .agg X.toArray := by have := hs'.eval y; rw [show (St.mk C.t st.m).ev y = .v (.agg (X.map .k)) from hy] at this; rw [← map_k_conc ρ]; exact this.2
  have e2 : a.eval z = .agg Y.toArray := by have := hs'.eval z; rw [show (St.mk C.t st.m).ev z = .v (.agg (Y.map .k)) from hz] at this; rw [← map_k_conc ρ]; exact this.2
  exact Snd.go hs (dstOk_lt hd) (tv := .v (.c (.k (.bool (eqR neg X Y))))) (Snd.here hs.mem (v := .bool (eqR neg X Y)) (exec_structEq neg hop hc hx e1 e2 w) ⟨trivial, rfl⟩) fun ρ' a' w' hs'' => hk ρ' a' w' hs''
theorem Steps.structEqG {ops : Array Oper} {o : Oper} {t t' : TypeId} {fs : Array Field} {y z : Operand} {C : St} {j : Nat} {want cb : Bool} (neg : Bool) (X Y : List Value) (hg : o.guard = some (j, want)) (hb : guardB ops C.t j want = some cb) (hop : o.op = .binOp (eqOp neg) t y z t')
    (hob : AllP (stripObs C.t j want cb (slotsOf o.op.operands.toList)))
    (hy : evG C.t j want (slotsOf o.op.operands.toList) y = .v (.agg (X.map .k))) (hz : evG C.t j want (slotsOf o.op.operands.toList) z = .v (.agg (Y.map .k))) (hd : dstOk E.N o.dst = true)
    (hc : CmpT P t fs) (hx : fitL P fs.toList X Y = true) : Steps P E ops o C (.grd j want cb (.c (.k (.bool (eqR neg X Y))))) [] := by
  intro st hle ρ a w hs Kc Q hk
  have hs' := hs.weakT hle.t
  have hw := wanted_cond (ops := ops) hs' hg hb
  rw [hw]
  cases hcb : cb with
  | true =>
    subst hcb
    rw [if_pos rfl]
    have hev := fun y => evG_rep hs' hob rfl y
    have e1 : a.eval y = .agg X.toArray := by have := hev y; rw [hy] at this; rw [← map_k_conc ρ]; exact this.2
    have e2 : a.eval z = .agg Y.toArray := by have := hev z; rw [hz] at this; rw [← map_k_conc ρ]; exact this.2
    exact Snd.go hs (dstOk_lt hd) (tv := .grd j want true (.c (.k (.bool (eqR neg X Y))))) (Snd.here hs.mem (v := .bool (eqR neg X Y)) (exec_structEq neg hop hc hx e1 e2 w) ⟨fun _ => ⟨trivial, rfl⟩, fun hf => by cases hf⟩) fun ρ' a' w' hs'' => hk ρ' a' w' hs''
  | false =>
    subst hcb
    rw [if_neg (by simp)]
    exact hk ρ _ w (hs.putT (dstOk_lt hd) ⟨fun hf => (by cases hf), fun _ => rfl⟩)
theorem GO.structEq {ops : Array Oper} {rest : List Oper} {o : Oper} {t t' : TypeId} {fs : Array Field} {y z : Operand} {tt : Nat → TV} {m : Mem} (neg : Bool) (X Y : List Value) (r : Bool) (hr : eqR neg X Y = r) (hc : CmpT P t fs) (hg : o.guard = none) (hop : o.op = .binOp (eqOp neg) t y z t') (hy : evT tt y = .v (.agg (X.map .k))) (hz : evT tt z = .v (.agg (Y.map .k))) (hd : dstOk E.N o.dst = true)
    (hx : fitL P fs.toList X Y = true) (k : GO P E ops K rest ⟨Sx.putT tt o.dst (.v (.c (.k (.bool r)))), m⟩) : GO P E ops K (o :: rest) ⟨tt, m⟩ := by
  subst hr
  exact GO.steps (Steps.structEq (C := ⟨tt, m⟩) neg X Y hg hop hy hz hd hc hx) k
theorem GO.structEqG {ops : Array Oper} {rest : List Oper} {o : Oper} {t t' : TypeId} {fs : Array Field} {y z : Operand} {tt : Nat → TV} {m : Mem} {j : Nat} {want cb : Bool} (neg : Bool) (X Y : List Value) (r : Bool) (hr : eqR neg X Y = r) (hc : CmpT P t fs) (hg : o.guard = some (j, want)) (hb : guardB ops tt j want = some cb) (hop : o.op = .binOp (eqOp neg) t y z t')
    (hob : AllP (stripObs tt j want cb (slotsOf o.op.operands.toList)))
    (hy : evG tt j want (slotsOf o.op.operands.toList) y = .v (.agg (X.map .k))) (hz : evG tt j want (slotsOf o.op.operands.toList) z = .v (.agg (Y.map .k))) (hd : dstOk E.N o.dst = true)
    (hx : fitL P fs.toList X Y = true) (k : GO P E ops K rest ⟨Sx.putT tt o.dst (.grd j want cb (.c (.k (.bool r)))), m⟩) : GO P E ops K (o :: rest) ⟨tt, m⟩ := by
  subst hr
  exact GO.steps (Steps.structEqG (C := ⟨tt, m⟩) neg X Y hg hb hop hob hy hz hd hc hx) k
/-! ### Closures that turn variables, in a region that draws its order -/
def msT : List Tn → List (Nat × Blk)
  | [] => []
  | b :: r => (b.x, .var b.ty (b.cs.map .k)) :: msT r
theorem upm_msT (m : Mem) (l : List Tn) : upm m (msT l) = turned m l := by
  induction l with
  | nil => rfl
  | cons b r ih =>
    funext y
    have := congrFun ih y
    simp only [upm, msT, mget, turned, up] at this ⊢
    cases Nat.beq y b.x <;> simp_all
theorem Steps.callTurn {ops : Array Oper} {o : Oper} {c : Call} {f : FuncId} {avs : List AV} {caps : List Cap} {v : Value} {C : St} (l : List Tn) (hg : o.guard = none) (hop : o.op = .call c) (he : callE C.t c = .mk f avs caps) (hd : dstOk E.N o.dst = true)
    (hcf : ∀ (args : Array Value) (w : World), (callFunc f args).run P w = .ok (.enter f args) w) (hl : ∀ b ∈ l, ∃ cells, C.m b.x = some (.var b.ty cells))
    (hc : ∀ m, LeM C.m m → ∀ ρ w, SatM E ρ m w → (∀ v ∈ avs, v.ok ρ m) → Calls P f (avs.map (AV.conc ρ) ++ caps.map (Cap.conc ρ)).toArray w fun e w' => e = .returned v ∧ Fr w (l.map fun b => (ρ b.x).1) w' ∧ ∀ b ∈ l, w'.heap[(ρ b.x).1]? = some (.cells b.cs.toArray b.ty (0, 0))) : Steps P E ops o C (toTV v) (msT l) := by
  intro st hle ρ a w hs Kc Q hk
  have hs' := hs.weakT hle.t
  obtain ⟨hr, hok, hok2⟩ := call_run hs' hop he hcf
  rw [if_pos (by simp [Region.wanted, hg])]
  unfold Oper.wp
  rw [hr]
  refine (hc st.m hle.m ρ w hs.mem hok).mono ?_
  rintro e w' ⟨rfl, hf, hn⟩
  have hm := hs.mem.turn (fun b hb => (hl b hb).imp fun cells h => LeM.at hle.m h) hf hn
  have hsome : ∀ y, (st.m y).isSome = true → (turned st.m l y).isSome = true := by
    intro y hy
    rcases turned_at (m := st.m) (l := l) y with ⟨b, _, _, h3⟩ | ⟨_, h2⟩
    · rw [h3]; rfl
    · rw [h2]; exact hy
  rw [upm_msT] at hk
  exact hk ρ _ w' ((hs.move hm hsome (fun _ _ => rfl)).putT (dstOk_lt hd) (toTV_rep _ _ v))
theorem GD.callTurn {recs : List DR} {o : Oper} {rest : List Oper} {t : Nat → TV} {m : Mem} {c : Call} {f : FuncId} {avs : List AV} {caps : List Cap} {v : Value} (tl : List Tn) (i : Nat) (hi : recs.length = i) (hg : o.guard = none) (hop : o.op = .call c) (he : callE (canF l cls X0 base i recs).t c = .mk f avs caps) (hd : dstOk E.N o.dst = true)
    (hn : Wok X0 i o (msT tl) = true)
    (hcf : ∀ (args : Array Value) (w : World), (callFunc f args).run P w = .ok (.enter f args) w) (hl : ∀ b ∈ tl, ∃ cells, (canF l cls X0 base i recs).m b.x = some (.var b.ty cells))
    (hc : ∀ m, LeM (canF l cls X0 base i recs).m m → ∀ ρ w, SatM E ρ m w → (∀ v ∈ avs, v.ok ρ m) → Calls P f (avs.map (AV.conc ρ) ++ caps.map (Cap.conc ρ)).toArray w fun e w' => e = .returned v ∧ Fr w (tl.map fun b => (ρ b.x).1) w' ∧ ∀ b ∈ tl, w'.heap[(ρ b.x).1]? = some (.cells b.cs.toArray b.ty (0, 0)))
    (k : GD P E K l cls X0 base (⟨o, toTV v, msT tl⟩ :: recs) rest (Sx.putT t o.dst (toTV v)) (upm m (msT tl))) : GD P E K l cls X0 base recs (o :: rest) t m :=
  GD.step (Steps.callTurn tl hg hop (by rw [← canF_eq hi]; exact he) hd hcf (by rw [← canF_eq hi]; exact hl) (by rw [← canF_eq hi]; exact hc)) (by rw [hi]; exact hn) k
end
end Go.Sx
/- Chapter 05: the factor, and what is corrected. -/
set_option linter.unusedVariables false
set_option linter.unusedSimpArgs false
set_option maxRecDepth 8000
namespace Go.Proofs.Ytiicemgngccicaa
open Go.Sx Go.RowKit
theorem thRule_any (r : Int) (w : World) : Calls Try.prog 75 #[I r] w fun e w' => e = .returned (.bool (isB r)) ∧ Below w.heap.size w w' := by
  refine enterPlain tfine Try.func75 rfl 6 Try.ntmps75 [.c (.k (I r))] [] rfl rfl trivial ⟨trivial, trivial⟩ ?_
  refine G.seqR tfine rfl trivial ?_
  refine G.seqC tfine rfl trivial ?_
  refine GO.callPlain rfl rfl rfl rfl (fun args w => Try.call85 args w) (fun ρ w hm _ => word_any r w) ?_
  refine GO.fin tfine rfl trivial ?_
  refine G.ret (endK.ret rfl ?_)
  cases h : isB r with
  | false => rw [wordS, h, ByteArray.toList_eq, ByteArray.toList_eq]; rfl
  | true =>
    have hk := isB_true h
    rw [wordS, h, ByteArray.toList_eq, ByteArray.toList_eq]
    rcases (show r = 1 ∨ r = 2 ∨ r = 3 ∨ r = 4 by omega) with rfl | rfl | rfl | rfl <;> rfl
def thermal_rises (x0 : Int) : Bool := ((decide (x0 ≥ (0 : Int))) && (decide (x0 ≤ (10000 : Int))))
theorem thermal_rises_any (x0 : Int) (w : World) : Calls Try.prog 56 #[I x0] w fun e w' => e = .returned (.bool (thermal_rises x0)) ∧ Below w.heap.size w w' := by
  refine enterPlain tfine Try.func56 rfl 9 Try.ntmps56 [.c (.k (I x0))] [] rfl rfl trivial ⟨trivial, trivial⟩ ?_
  refine G.seqR tfine rfl ?_ ?_
  · first | trivial | (simp [AllP, condB]; done) | (simp only [AllP]; and_intros <;> first | trivial | decide | omega) | (simp [AllP, condB]; intros; and_intros <;> first | assumption | omega)
  refine G.seqR tfine rfl ?_ ?_
  · first | trivial | (simp [AllP, condB]; done) | (simp only [AllP]; and_intros <;> first | trivial | decide | omega) | (simp [AllP, condB]; intros; and_intros <;> first | assumption | omega)
  refine G.ret (endK.ret rfl ?_)
  first | (rw [thermal_rises]; done) | (rw [thermal_rises]; rfl)
def thermal_heat (x0 : Int) : Bool := ((decide (x0 ≥ (-400 : Int))) && (decide (x0 ≤ (600 : Int))))
theorem thermal_heat_any (x0 : Int) (w : World) : Calls Try.prog 57 #[I x0] w fun e w' => e = .returned (.bool (thermal_heat x0)) ∧ Below w.heap.size w w' := by
  refine enterPlain tfine Try.func57 rfl 9 Try.ntmps57 [.c (.k (I x0))] [] rfl rfl trivial ⟨trivial, trivial⟩ ?_
  refine G.seqR tfine rfl ?_ ?_
  · first | trivial | (simp [AllP, condB]; done) | (simp only [AllP]; and_intros <;> first | trivial | decide | omega) | (simp [AllP, condB]; intros; and_intros <;> first | assumption | omega)
  refine G.seqR tfine rfl ?_ ?_
  · first | trivial | (simp [AllP, condB]; done) | (simp only [AllP]; and_intros <;> first | trivial | decide | omega) | (simp [AllP, condB]; intros; and_intros <;> first | assumption | omega)
  refine G.ret (endK.ret rfl ?_)
  first | (rw [thermal_heat]; done) | (rw [thermal_heat]; rfl)
def thermal_Factor (x0 : Int) (x1 : Int) : Int × Int := if ((!(thermal_rises x0)) || (!(thermal_heat x1))) = true then ((0 : Int), (2 : Int)) else (IntKind.i64.wrap ((10000000 : Int) + (IntKind.i64.wrap (x0 * (IntKind.i64.wrap (x1 - (200 : Int)))))), (0 : Int))
theorem thermal_Factor_any (x0 : Int) (x1 : Int) (w : World) : Calls Try.prog 76 #[I x0, I x1] w fun e w' => e = .returned (.tuple #[I ((thermal_Factor x0 x1).1), I ((thermal_Factor x0 x1).2)]) ∧ Below w.heap.size w w' := by
  refine enterPlain tfine Try.func76 rfl 19 Try.ntmps76 [.c (.k (I x0)), .c (.k (I x1))] [] rfl rfl trivial ⟨trivial, trivial, trivial⟩ ?_
  refine G.seqR tfine rfl ?_ ?_
  · first | trivial | (simp [AllP, condB]; done) | (simp only [AllP]; and_intros <;> first | trivial | decide | omega) | (simp [AllP, condB]; intros; and_intros <;> first | assumption | omega)
  refine G.seq ?_
  refine G.seqC tfine rfl ?_ ?_
  · first | trivial | (simp [AllP, condB]; done) | (simp only [AllP]; and_intros <;> first | trivial | decide | omega) | (simp [AllP, condB]; intros; and_intros <;> first | assumption | omega)
  refine GO.callPlain (v := .bool (thermal_rises x0))  rfl rfl rfl rfl (fun args w => Try.call56 args w) (fun ρ w hm _ => thermal_rises_any _ w) ?_
  refine GO.more tfine rfl ?_ ?_
  · first | trivial | (simp [AllP, condB]; done) | (simp only [AllP]; and_intros <;> first | trivial | decide | omega) | (simp [AllP, condB]; intros; and_intros <;> first | assumption | omega)
  refine GO.callGuard (.bool (thermal_heat x1)) rfl rfl rfl (by first | exact trivial | exact ⟨id, trivial⟩ | exact ⟨id, id, trivial⟩ | exact ⟨id, id, id, trivial⟩ | exact ⟨id, id, id, id, trivial⟩) rfl rfl (fun args w => Try.call57 args w) rfl (fun _ m' hle ρ w hs hok => thermal_heat_any _ w) ?_
  refine GO.fin tfine rfl ?_ ?_
  · first | trivial | (simp [AllP, condB]; done) | (simp only [AllP]; and_intros <;> first | trivial | decide | omega) | (simp [AllP, condB]; intros; and_intros <;> first | assumption | omega)
  refine G.cond rfl (fun h1 => ?_) (fun h1 => ?_)
  · refine G.seqR tfine rfl ?_ ?_
    · first | trivial | (simp [AllP, condB]; done) | (simp only [AllP]; and_intros <;> first | trivial | decide | omega) | (simp [AllP, condB]; intros; and_intros <;> first | assumption | omega)
    refine G.ret (endK.ret rfl ?_)
    first | (rw [thermal_Factor, h1]; done) | (rw [thermal_Factor, h1]; rfl)
  refine G.skip ?_
  refine G.seqR tfine rfl ?_ ?_
  · first | trivial | (simp [AllP, condB]; done) | (simp only [AllP]; and_intros <;> first | trivial | decide | omega) | (simp [AllP, condB]; intros; and_intros <;> first | assumption | omega)
  refine G.ret (endK.ret rfl ?_)
  first | (rw [thermal_Factor, h1]; done) | (rw [thermal_Factor, h1]; rfl)
def thermal_amount (x0 : Int) : Bool := (((of3 x0 (0 : Int) (1 : Int)).2.2) == (0 : Int))
theorem thermal_amount_any (x0 : Int) (w : World) : Calls Try.prog 58 #[I x0] w fun e w' => e = .returned (.bool (thermal_amount x0)) ∧ Below w.heap.size w w' := by
  refine enterPlain tfine Try.func58 rfl 14 Try.ntmps58 [.c (.k (I x0))] [] rfl rfl trivial ⟨trivial, trivial⟩ ?_
  refine G.seqR tfine rfl ?_ ?_
  · first | trivial | (simp [AllP, condB]; done) | (simp only [AllP]; and_intros <;> first | trivial | decide | omega) | (simp [AllP, condB]; intros; and_intros <;> first | assumption | omega)
  refine G.seqC tfine rfl ?_ ?_
  · first | trivial | (simp [AllP, condB]; done) | (simp only [AllP]; and_intros <;> first | trivial | decide | omega) | (simp [AllP, condB]; intros; and_intros <;> first | assumption | omega)
  refine GO.callPlain (v := .tuple #[I ((of3 x0 (0 : Int) (1 : Int)).1), I ((of3 x0 (0 : Int) (1 : Int)).2.1), I ((of3 x0 (0 : Int) (1 : Int)).2.2)])  rfl rfl rfl rfl (fun args w => Try.call68 args w) (fun ρ w hm _ => of_any _ _ _ w) ?_
  refine GO.fin tfine rfl ?_ ?_
  · first | trivial | (simp [AllP, condB]; done) | (simp only [AllP]; and_intros <;> first | trivial | decide | omega) | (simp [AllP, condB]; intros; and_intros <;> first | assumption | omega)
  refine G.seqR tfine rfl ?_ ?_
  · first | trivial | (simp [AllP, condB]; done) | (simp only [AllP]; and_intros <;> first | trivial | decide | omega) | (simp [AllP, condB]; intros; and_intros <;> first | assumption | omega)
  refine G.ret (endK.ret rfl ?_)
  first | (rw [thermal_amount]; done) | (rw [thermal_amount]; rfl)
def thermal_corrected (x0 : Int) (x1 : Int) (x2 : Int) (x3 : Int) (x4 : Bool) : Int × Int := if (!(isB x3)) = true then ((0 : Int), (1 : Int)) else if ((((thermal_Factor x1 x2).2) != (0 : Int)) || (!(thermal_amount x0))) = true then ((0 : Int), (2 : Int)) else if x4 = true then ((prod2 x0 (10000000 : Int) ((thermal_Factor x1 x2).1) x3).1, (prod2 x0 (10000000 : Int) ((thermal_Factor x1 x2).1) x3).2) else ((prod2 x0 ((thermal_Factor x1 x2).1) (10000000 : Int) x3).1, (prod2 x0 ((thermal_Factor x1 x2).1) (10000000 : Int) x3).2)
theorem thermal_corrected_any (x0 : Int) (x1 : Int) (x2 : Int) (x3 : Int) (x4 : Bool) (w : World) : Calls Try.prog 69 #[I x0, I x1, I x2, I x3, .bool x4] w fun e w' => e = .returned (.tuple #[I ((thermal_corrected x0 x1 x2 x3 x4).1), I ((thermal_corrected x0 x1 x2 x3 x4).2)]) ∧ Below w.heap.size w w' := by
  refine enterPlain tfine Try.func69 rfl 43 Try.ntmps69 [.c (.k (I x0)), .c (.k (I x1)), .c (.k (I x2)), .c (.k (I x3)), .c (.k (.bool x4))] [] rfl rfl trivial ⟨trivial, trivial, trivial, trivial, trivial, trivial⟩ ?_
  refine G.seqR tfine rfl ?_ ?_
  · first | trivial | (simp [AllP, condB]; done) | (simp only [AllP]; and_intros <;> first | trivial | decide | omega) | (simp [AllP, condB]; intros; and_intros <;> first | assumption | omega)
  refine G.seq ?_
  refine G.seqC tfine rfl ?_ ?_
  · first | trivial | (simp [AllP, condB]; done) | (simp only [AllP]; and_intros <;> first | trivial | decide | omega) | (simp [AllP, condB]; intros; and_intros <;> first | assumption | omega)
  refine GO.callPlain (v := .bool (isB x3))  rfl rfl rfl rfl (fun args w => Try.call75 args w) (fun ρ w hm _ => thRule_any _ w) ?_
  refine GO.fin tfine rfl ?_ ?_
  · first | trivial | (simp [AllP, condB]; done) | (simp only [AllP]; and_intros <;> first | trivial | decide | omega) | (simp [AllP, condB]; intros; and_intros <;> first | assumption | omega)
  refine G.cond rfl (fun h1 => ?_) (fun h1 => ?_)
  · refine G.seqR tfine rfl ?_ ?_
    · first | trivial | (simp [AllP, condB]; done) | (simp only [AllP]; and_intros <;> first | trivial | decide | omega) | (simp [AllP, condB]; intros; and_intros <;> first | assumption | omega)
    refine G.ret (endK.ret rfl ?_)
    first | (rw [thermal_corrected, h1]; done) | (rw [thermal_corrected, h1]; rfl)
  refine G.skip ?_
  refine G.seqC tfine rfl ?_ ?_
  · first | trivial | (simp [AllP, condB]; done) | (simp only [AllP]; and_intros <;> first | trivial | decide | omega) | (simp [AllP, condB]; intros; and_intros <;> first | assumption | omega)
  refine GO.callPlain (v := .tuple #[I ((thermal_Factor x1 x2).1), I ((thermal_Factor x1 x2).2)])  rfl rfl rfl rfl (fun args w => Try.call76 args w) (fun ρ w hm _ => thermal_Factor_any _ _ w) ?_
  refine GO.fin tfine rfl ?_ ?_
  · first | trivial | (simp [AllP, condB]; done) | (simp only [AllP]; and_intros <;> first | trivial | decide | omega) | (simp [AllP, condB]; intros; and_intros <;> first | assumption | omega)
  refine G.seq ?_
  refine G.seqC tfine rfl ?_ ?_
  · first | trivial | (simp [AllP, condB]; done) | (simp only [AllP]; and_intros <;> first | trivial | decide | omega) | (simp [AllP, condB]; intros; and_intros <;> first | assumption | omega)
  refine GO.callGuard (.bool (thermal_amount x0)) rfl rfl rfl (by first | exact trivial | exact ⟨id, trivial⟩ | exact ⟨id, id, trivial⟩ | exact ⟨id, id, id, trivial⟩ | exact ⟨id, id, id, id, trivial⟩) rfl rfl (fun args w => Try.call58 args w) rfl (fun _ m' hle ρ w hs hok => thermal_amount_any _ w) ?_
  refine GO.fin tfine rfl ?_ ?_
  · first | trivial | (simp [AllP, condB]; done) | (simp only [AllP]; and_intros <;> first | trivial | decide | omega) | (simp [AllP, condB]; intros; and_intros <;> first | assumption | omega)
  refine G.cond rfl (fun h2 => ?_) (fun h2 => ?_)
  · refine G.seqR tfine rfl ?_ ?_
    · first | trivial | (simp [AllP, condB]; done) | (simp only [AllP]; and_intros <;> first | trivial | decide | omega) | (simp [AllP, condB]; intros; and_intros <;> first | assumption | omega)
    refine G.ret (endK.ret rfl ?_)
    first | (rw [thermal_corrected, h1, h2]; done) | (rw [thermal_corrected, h1, h2]; rfl)
  refine G.skip ?_
  refine G.seq ?_
  refine G.seqR tfine rfl ?_ ?_
  · first | trivial | (simp [AllP, condB]; done) | (simp only [AllP]; and_intros <;> first | trivial | decide | omega) | (simp [AllP, condB]; intros; and_intros <;> first | assumption | omega)
  refine G.cond rfl (fun h3 => ?_) (fun h3 => ?_)
  · refine G.seqC tfine rfl ?_ ?_
    · first | trivial | (simp [AllP, condB]; done) | (simp only [AllP]; and_intros <;> first | trivial | decide | omega) | (simp [AllP, condB]; intros; and_intros <;> first | assumption | omega)
    refine GO.callPlain (v := .tuple #[I ((prod2 x0 (10000000 : Int) ((thermal_Factor x1 x2).1) x3).1), I ((prod2 x0 (10000000 : Int) ((thermal_Factor x1 x2).1) x3).2)])  rfl rfl rfl rfl (fun args w => Try.call77 args w) (fun ρ w hm _ => rprod_any _ _ _ _ w) ?_
    refine GO.fin tfine rfl ?_ ?_
    · first | trivial | (simp [AllP, condB]; done) | (simp only [AllP]; and_intros <;> first | trivial | decide | omega) | (simp [AllP, condB]; intros; and_intros <;> first | assumption | omega)
    refine G.ret (endK.ret rfl ?_)
    first | (rw [thermal_corrected, h1, h2, h3]; done) | (rw [thermal_corrected, h1, h2, h3]; rfl)
  refine G.skip ?_
  refine G.seqC tfine rfl ?_ ?_
  · first | trivial | (simp [AllP, condB]; done) | (simp only [AllP]; and_intros <;> first | trivial | decide | omega) | (simp [AllP, condB]; intros; and_intros <;> first | assumption | omega)
  refine GO.callPlain (v := .tuple #[I ((prod2 x0 ((thermal_Factor x1 x2).1) (10000000 : Int) x3).1), I ((prod2 x0 ((thermal_Factor x1 x2).1) (10000000 : Int) x3).2)])  rfl rfl rfl rfl (fun args w => Try.call77 args w) (fun ρ w hm _ => rprod_any _ _ _ _ w) ?_
  refine GO.fin tfine rfl ?_ ?_
  · first | trivial | (simp [AllP, condB]; done) | (simp only [AllP]; and_intros <;> first | trivial | decide | omega) | (simp [AllP, condB]; intros; and_intros <;> first | assumption | omega)
  refine G.ret (endK.ret rfl ?_)
  first | (rw [thermal_corrected, h1, h2, h3]; done) | (rw [thermal_corrected, h1, h2, h3]; rfl)
def thermal_At (x0 : Int) (x1 : Int) (x2 : Int) (x3 : Int) : Int × Int := ((thermal_corrected x0 x1 x2 x3 false).1, (thermal_corrected x0 x1 x2 x3 false).2)
def thermal_To20 (x0 : Int) (x1 : Int) (x2 : Int) (x3 : Int) : Int × Int := ((thermal_corrected x0 x1 x2 x3 true).1, (thermal_corrected x0 x1 x2 x3 true).2)
theorem thermal_To20_any (x0 : Int) (x1 : Int) (x2 : Int) (x3 : Int) (w : World) : Calls Try.prog 60 #[I x0, I x1, I x2, I x3] w fun e w' => e = .returned (.tuple #[I ((thermal_To20 x0 x1 x2 x3).1), I ((thermal_To20 x0 x1 x2 x3).2)]) ∧ Below w.heap.size w w' := by
  refine enterPlain tfine Try.func60 rfl 17 Try.ntmps60 [.c (.k (I x0)), .c (.k (I x1)), .c (.k (I x2)), .c (.k (I x3))] [] rfl rfl trivial ⟨trivial, trivial, trivial, trivial, trivial⟩ ?_
  refine G.seqR tfine rfl ?_ ?_
  · first | trivial | (simp [AllP, condB]; done) | (simp only [AllP]; and_intros <;> first | trivial | decide | omega) | (simp [AllP, condB]; intros; and_intros <;> first | assumption | omega)
  refine G.seqC tfine rfl ?_ ?_
  · first | trivial | (simp [AllP, condB]; done) | (simp only [AllP]; and_intros <;> first | trivial | decide | omega) | (simp [AllP, condB]; intros; and_intros <;> first | assumption | omega)
  refine GO.callPlain (v := .tuple #[I ((thermal_corrected x0 x1 x2 x3 true).1), I ((thermal_corrected x0 x1 x2 x3 true).2)])  rfl rfl rfl rfl (fun args w => Try.call69 args w) (fun ρ w hm _ => thermal_corrected_any _ _ _ _ _ w) ?_
  refine GO.fin tfine rfl ?_ ?_
  · first | trivial | (simp [AllP, condB]; done) | (simp only [AllP]; and_intros <;> first | trivial | decide | omega) | (simp [AllP, condB]; intros; and_intros <;> first | assumption | omega)
  refine G.ret (endK.ret rfl ?_)
  first | (rw [thermal_To20]; done) | (rw [thermal_To20]; rfl)
def spileref05_IsHeat (x0 : Int) : Bool := ((decide (x0 ≥ (-400 : Int))) && (decide (x0 ≤ (600 : Int))))
theorem spileref05_IsHeat_any (x0 : Int) (w : World) : Calls Try.prog 61 #[I x0] w fun e w' => e = .returned (.bool (spileref05_IsHeat x0)) ∧ Below w.heap.size w w' := by
  refine enterPlain tfine Try.func61 rfl 9 Try.ntmps61 [.c (.k (I x0))] [] rfl rfl trivial ⟨trivial, trivial⟩ ?_
  refine G.seqR tfine rfl ?_ ?_
  · first | trivial | (simp [AllP, condB]; done) | (simp only [AllP]; and_intros <;> first | trivial | decide | omega) | (simp [AllP, condB]; intros; and_intros <;> first | assumption | omega)
  refine G.seqR tfine rfl ?_ ?_
  · first | trivial | (simp [AllP, condB]; done) | (simp only [AllP]; and_intros <;> first | trivial | decide | omega) | (simp [AllP, condB]; intros; and_intros <;> first | assumption | omega)
  refine G.ret (endK.ret rfl ?_)
  first | (rw [spileref05_IsHeat]; done) | (rw [spileref05_IsHeat]; rfl)
def spileref05_Of (x0 : Int) (x1 : Int) : Int := (IntKind.i64.wrap ((10000000 : Int) + (IntKind.i64.wrap (x0 * (IntKind.i64.wrap (x1 - (200 : Int)))))))
theorem spileref05_Of_any (x0 : Int) (x1 : Int) (w : World) : Calls Try.prog 62 #[I x0, I x1] w fun e w' => e = .returned (I (spileref05_Of x0 x1)) ∧ Below w.heap.size w w' := by
  refine enterPlain tfine Try.func62 rfl 10 Try.ntmps62 [.c (.k (I x0)), .c (.k (I x1))] [] rfl rfl trivial ⟨trivial, trivial, trivial⟩ ?_
  refine G.seqR tfine rfl ?_ ?_
  · first | trivial | (simp [AllP, condB]; done) | (simp only [AllP]; and_intros <;> first | trivial | decide | omega) | (simp [AllP, condB]; intros; and_intros <;> first | assumption | omega)
  refine G.seqR tfine rfl ?_ ?_
  · first | trivial | (simp [AllP, condB]; done) | (simp only [AllP]; and_intros <;> first | trivial | decide | omega) | (simp [AllP, condB]; intros; and_intros <;> first | assumption | omega)
  refine G.ret (endK.ret rfl ?_)
  first | (rw [spileref05_Of]; done) | (rw [spileref05_Of]; rfl)
def spileref05_Factor (x0 : Int) (x1 : Int) : Int × Int := if (((decide (x0 < (0 : Int))) || (decide (x0 > (10000 : Int)))) || (!(spileref05_IsHeat x1))) = true then ((0 : Int), (2 : Int)) else (spileref05_Of x0 x1, (0 : Int))
theorem spileref05_Factor_any (x0 : Int) (x1 : Int) (w : World) : Calls Try.prog 38 #[I x0, I x1] w fun e w' => e = .returned (.tuple #[I ((spileref05_Factor x0 x1).1), I ((spileref05_Factor x0 x1).2)]) ∧ Below w.heap.size w w' := by
  refine enterPlain tfine Try.func38 rfl 20 Try.ntmps38 [.c (.k (I x0)), .c (.k (I x1))] [] rfl rfl trivial ⟨trivial, trivial, trivial⟩ ?_
  refine G.seqR tfine rfl ?_ ?_
  · first | trivial | (simp [AllP, condB]; done) | (simp only [AllP]; and_intros <;> first | trivial | decide | omega) | (simp [AllP, condB]; intros; and_intros <;> first | assumption | omega)
  refine G.seq ?_
  refine G.seqC tfine rfl ?_ ?_
  · first | trivial | (simp [AllP, condB]; done) | (simp only [AllP]; and_intros <;> first | trivial | decide | omega) | (simp [AllP, condB]; intros; and_intros <;> first | assumption | omega)
  refine GO.callGuard (.bool (spileref05_IsHeat x1)) rfl rfl rfl (by first | exact trivial | exact ⟨id, trivial⟩ | exact ⟨id, id, trivial⟩ | exact ⟨id, id, id, trivial⟩ | exact ⟨id, id, id, id, trivial⟩) rfl rfl (fun args w => Try.call61 args w) rfl (fun _ m' hle ρ w hs hok => spileref05_IsHeat_any _ w) ?_
  refine GO.fin tfine rfl ?_ ?_
  · first | trivial | (simp [AllP, condB]; done) | (simp only [AllP]; and_intros <;> first | trivial | decide | omega) | (simp [AllP, condB]; intros; and_intros <;> first | assumption | omega)
  refine G.cond rfl (fun h1 => ?_) (fun h1 => ?_)
  · refine G.seqR tfine rfl ?_ ?_
    · first | trivial | (simp [AllP, condB]; done) | (simp only [AllP]; and_intros <;> first | trivial | decide | omega) | (simp [AllP, condB]; intros; and_intros <;> first | assumption | omega)
    refine G.ret (endK.ret rfl ?_)
    first | (rw [spileref05_Factor, h1]; done) | (rw [spileref05_Factor, h1]; rfl)
  refine G.skip ?_
  refine G.seqC tfine rfl ?_ ?_
  · first | trivial | (simp [AllP, condB]; done) | (simp only [AllP]; and_intros <;> first | trivial | decide | omega) | (simp [AllP, condB]; intros; and_intros <;> first | assumption | omega)
  refine GO.callPlain (v := I (spileref05_Of x0 x1))  rfl rfl rfl rfl (fun args w => Try.call62 args w) (fun ρ w hm _ => spileref05_Of_any _ _ w) ?_
  refine GO.fin tfine rfl ?_ ?_
  · first | trivial | (simp [AllP, condB]; done) | (simp only [AllP]; and_intros <;> first | trivial | decide | omega) | (simp [AllP, condB]; intros; and_intros <;> first | assumption | omega)
  refine G.ret (endK.ret rfl ?_)
  first | (rw [spileref05_Factor, h1]; done) | (rw [spileref05_Factor, h1]; rfl)
def spileref05_ready (x0 : Int) (x1 : Int) (x2 : Int) (x3 : Int) : Int := if (!(isB x3)) = true then ((1 : Int)) else if ((((spileref05_Factor x1 x2).2) != (0 : Int)) || (!(amtB x0))) = true then ((2 : Int)) else ((0 : Int))
theorem spileref05_ready_any (x0 : Int) (x1 : Int) (x2 : Int) (x3 : Int) (w : World) : Calls Try.prog 63 #[I x0, I x1, I x2, I x3] w fun e w' => e = .returned (I (spileref05_ready x0 x1 x2 x3)) ∧ Below w.heap.size w w' := by
  refine enterPlain tfine Try.func63 rfl 27 Try.ntmps63 [.c (.k (I x0)), .c (.k (I x1)), .c (.k (I x2)), .c (.k (I x3))] [] rfl rfl trivial ⟨trivial, trivial, trivial, trivial, trivial⟩ ?_
  refine G.seqR tfine rfl ?_ ?_
  · first | trivial | (simp [AllP, condB]; done) | (simp only [AllP]; and_intros <;> first | trivial | decide | omega) | (simp [AllP, condB]; intros; and_intros <;> first | assumption | omega)
  refine G.seq ?_
  refine G.seqC tfine rfl ?_ ?_
  · first | trivial | (simp [AllP, condB]; done) | (simp only [AllP]; and_intros <;> first | trivial | decide | omega) | (simp [AllP, condB]; intros; and_intros <;> first | assumption | omega)
  refine GO.callPlain (v := .bool (isB x3))  rfl rfl rfl rfl (fun args w => Try.call70 args w) (fun ρ w hm _ => refIs_any _ w) ?_
  refine GO.fin tfine rfl ?_ ?_
  · first | trivial | (simp [AllP, condB]; done) | (simp only [AllP]; and_intros <;> first | trivial | decide | omega) | (simp [AllP, condB]; intros; and_intros <;> first | assumption | omega)
  refine G.cond rfl (fun h1 => ?_) (fun h1 => ?_)
  · refine G.seqR tfine rfl ?_ ?_
    · first | trivial | (simp [AllP, condB]; done) | (simp only [AllP]; and_intros <;> first | trivial | decide | omega) | (simp [AllP, condB]; intros; and_intros <;> first | assumption | omega)
    refine G.ret (endK.ret rfl ?_)
    first | (rw [spileref05_ready, h1]; done) | (rw [spileref05_ready, h1]; rfl)
  refine G.skip ?_
  refine G.seq ?_
  refine G.seqC tfine rfl ?_ ?_
  · first | trivial | (simp [AllP, condB]; done) | (simp only [AllP]; and_intros <;> first | trivial | decide | omega) | (simp [AllP, condB]; intros; and_intros <;> first | assumption | omega)
  refine GO.callPlain (v := .tuple #[I ((spileref05_Factor x1 x2).1), I ((spileref05_Factor x1 x2).2)])  rfl rfl rfl rfl (fun args w => Try.call38 args w) (fun ρ w hm _ => spileref05_Factor_any _ _ w) ?_
  refine GO.fin tfine rfl ?_ ?_
  · first | trivial | (simp [AllP, condB]; done) | (simp only [AllP]; and_intros <;> first | trivial | decide | omega) | (simp [AllP, condB]; intros; and_intros <;> first | assumption | omega)
  refine G.seqC tfine rfl ?_ ?_
  · first | trivial | (simp [AllP, condB]; done) | (simp only [AllP]; and_intros <;> first | trivial | decide | omega) | (simp [AllP, condB]; intros; and_intros <;> first | assumption | omega)
  refine GO.callGuard (.bool (amtB x0)) rfl rfl rfl (by first | exact trivial | exact ⟨id, trivial⟩ | exact ⟨id, id, trivial⟩ | exact ⟨id, id, id, trivial⟩ | exact ⟨id, id, id, id, trivial⟩) rfl rfl (fun args w => Try.call71 args w) rfl (fun _ m' hle ρ w hs hok => ref1Is_any _ w) ?_
  refine GO.fin tfine rfl ?_ ?_
  · first | trivial | (simp [AllP, condB]; done) | (simp only [AllP]; and_intros <;> first | trivial | decide | omega) | (simp [AllP, condB]; intros; and_intros <;> first | assumption | omega)
  refine G.cond rfl (fun h2 => ?_) (fun h2 => ?_)
  · refine G.seqR tfine rfl ?_ ?_
    · first | trivial | (simp [AllP, condB]; done) | (simp only [AllP]; and_intros <;> first | trivial | decide | omega) | (simp [AllP, condB]; intros; and_intros <;> first | assumption | omega)
    refine G.ret (endK.ret rfl ?_)
    first | (rw [spileref05_ready, h1, h2]; done) | (rw [spileref05_ready, h1, h2]; rfl)
  refine G.skip ?_
  refine G.seqR tfine rfl ?_ ?_
  · first | trivial | (simp [AllP, condB]; done) | (simp only [AllP]; and_intros <;> first | trivial | decide | omega) | (simp [AllP, condB]; intros; and_intros <;> first | assumption | omega)
  refine G.ret (endK.ret rfl ?_)
  first | (rw [spileref05_ready, h1, h2]; done) | (rw [spileref05_ready, h1, h2]; rfl)
def spileref05_At (x0 : Int) (x1 : Int) (x2 : Int) (x3 : Int) : Int × Int := if ((spileref05_ready x0 x1 x2 x3) != (0 : Int)) = true then ((0 : Int), spileref05_ready x0 x1 x2 x3) else ((prod2 x0 (spileref05_Of x1 x2) (10000000 : Int) x3).1, (prod2 x0 (spileref05_Of x1 x2) (10000000 : Int) x3).2)
def spileref05_To20 (x0 : Int) (x1 : Int) (x2 : Int) (x3 : Int) : Int × Int := if ((spileref05_ready x0 x1 x2 x3) != (0 : Int)) = true then ((0 : Int), spileref05_ready x0 x1 x2 x3) else ((prod2 x0 (10000000 : Int) (spileref05_Of x1 x2) x3).1, (prod2 x0 (10000000 : Int) (spileref05_Of x1 x2) x3).2)
theorem spileref05_To20_any (x0 : Int) (x1 : Int) (x2 : Int) (x3 : Int) (w : World) : Calls Try.prog 64 #[I x0, I x1, I x2, I x3] w fun e w' => e = .returned (.tuple #[I ((spileref05_To20 x0 x1 x2 x3).1), I ((spileref05_To20 x0 x1 x2 x3).2)]) ∧ Below w.heap.size w w' := by
  refine enterPlain tfine Try.func64 rfl 27 Try.ntmps64 [.c (.k (I x0)), .c (.k (I x1)), .c (.k (I x2)), .c (.k (I x3))] [] rfl rfl trivial ⟨trivial, trivial, trivial, trivial, trivial⟩ ?_
  refine G.seqR tfine rfl ?_ ?_
  · first | trivial | (simp [AllP, condB]; done) | (simp only [AllP]; and_intros <;> first | trivial | decide | omega) | (simp [AllP, condB]; intros; and_intros <;> first | assumption | omega)
  refine G.seq ?_
  refine G.seqC tfine rfl ?_ ?_
  · first | trivial | (simp [AllP, condB]; done) | (simp only [AllP]; and_intros <;> first | trivial | decide | omega) | (simp [AllP, condB]; intros; and_intros <;> first | assumption | omega)
  refine GO.callPlain (v := I (spileref05_ready x0 x1 x2 x3))  rfl rfl rfl rfl (fun args w => Try.call63 args w) (fun ρ w hm _ => spileref05_ready_any _ _ _ _ w) ?_
  refine GO.fin tfine rfl ?_ ?_
  · first | trivial | (simp [AllP, condB]; done) | (simp only [AllP]; and_intros <;> first | trivial | decide | omega) | (simp [AllP, condB]; intros; and_intros <;> first | assumption | omega)
  refine G.seqR tfine rfl ?_ ?_
  · first | trivial | (simp [AllP, condB]; done) | (simp only [AllP]; and_intros <;> first | trivial | decide | omega) | (simp [AllP, condB]; intros; and_intros <;> first | assumption | omega)
  refine G.cond rfl (fun h1 => ?_) (fun h1 => ?_)
  · refine G.seqR tfine rfl ?_ ?_
    · first | trivial | (simp [AllP, condB]; done) | (simp only [AllP]; and_intros <;> first | trivial | decide | omega) | (simp [AllP, condB]; intros; and_intros <;> first | assumption | omega)
    refine G.ret (endK.ret rfl ?_)
    first | (rw [spileref05_To20, h1]; done) | (rw [spileref05_To20, h1]; rfl)
  refine G.skip ?_
  refine G.seqC tfine rfl ?_ ?_
  · first | trivial | (simp [AllP, condB]; done) | (simp only [AllP]; and_intros <;> first | trivial | decide | omega) | (simp [AllP, condB]; intros; and_intros <;> first | assumption | omega)
  refine GO.callPlain (v := I (spileref05_Of x1 x2))  rfl rfl rfl rfl (fun args w => Try.call62 args w) (fun ρ w hm _ => spileref05_Of_any _ _ w) ?_
  refine GO.more tfine rfl ?_ ?_
  · first | trivial | (simp [AllP, condB]; done) | (simp only [AllP]; and_intros <;> first | trivial | decide | omega) | (simp [AllP, condB]; intros; and_intros <;> first | assumption | omega)
  refine GO.callPlain (v := .tuple #[I ((prod2 x0 (10000000 : Int) (spileref05_Of x1 x2) x3).1), I ((prod2 x0 (10000000 : Int) (spileref05_Of x1 x2) x3).2)])  rfl rfl rfl rfl (fun args w => Try.call72 args w) (fun ρ w hm _ => refProduct_any _ _ _ _ w) ?_
  refine GO.fin tfine rfl ?_ ?_
  · first | trivial | (simp [AllP, condB]; done) | (simp only [AllP]; and_intros <;> first | trivial | decide | omega) | (simp [AllP, condB]; intros; and_intros <;> first | assumption | omega)
  refine G.ret (endK.ret rfl ?_)
  first | (rw [spileref05_To20, h1]; done) | (rw [spileref05_To20, h1]; rfl)
def spileref05_Between (x0_0 : Int) (x0_1 : Int) (x1_0 : Int) (x1_1 : Int) (x2 : Int) : Int × Int × Int := if ((decide (x0_0 > x0_1)) || (decide (x1_0 > x1_1))) = true then ((0 : Int), (0 : Int), (1 : Int)) else if (((spileref05_ready x0_0 x2 x1_0 (2 : Int)) != (0 : Int)) || ((spileref05_ready x0_1 x2 x1_1 (2 : Int)) != (0 : Int))) = true then ((0 : Int), (0 : Int), (2 : Int)) else if ((((spileref05_To20 x0_0 x2 x1_1 (1 : Int)).2) != (0 : Int)) || (((spileref05_To20 x0_1 x2 x1_0 (2 : Int)).2) != (0 : Int))) = true then ((0 : Int), (0 : Int), (15 : Int)) else ((spileref05_To20 x0_0 x2 x1_1 (1 : Int)).1, (spileref05_To20 x0_1 x2 x1_0 (2 : Int)).1, (0 : Int))
theorem spileref05_Between_any (x0_0 : Int) (x0_1 : Int) (x1_0 : Int) (x1_1 : Int) (x2 : Int) (w : World) : Calls Try.prog 40 #[.agg #[I x0_0, I x0_1], .agg #[I x1_0, I x1_1], I x2] w fun e w' => e = .returned (.tuple #[.agg #[I ((spileref05_Between x0_0 x0_1 x1_0 x1_1 x2).1), I ((spileref05_Between x0_0 x0_1 x1_0 x1_1 x2).2.1)], I ((spileref05_Between x0_0 x0_1 x1_0 x1_1 x2).2.2)]) ∧ Below w.heap.size w w' := by
  refine enterPlain tfine Try.func40 rfl 70 Try.ntmps40 [.agg [.k (I x0_0), .k (I x0_1)], .agg [.k (I x1_0), .k (I x1_1)], .c (.k (I x2))] [] rfl rfl trivial ⟨⟨trivial, trivial, trivial⟩, ⟨trivial, trivial, trivial⟩, trivial, trivial⟩ ?_
  refine G.seqR tfine rfl ?_ ?_
  · first | trivial | (simp [AllP, condB]; done) | (simp only [AllP]; and_intros <;> first | trivial | decide | omega) | (simp [AllP, condB]; intros; and_intros <;> first | assumption | omega)
  refine G.seq ?_
  refine G.seqR tfine rfl ?_ ?_
  · first | trivial | (simp [AllP, condB]; done) | (simp only [AllP]; and_intros <;> first | trivial | decide | omega) | (simp [AllP, condB]; intros; and_intros <;> first | assumption | omega)
  refine G.cond rfl (fun h1 => ?_) (fun h1 => ?_)
  · refine G.seqR tfine rfl ?_ ?_
    · first | trivial | (simp [AllP, condB]; done) | (simp only [AllP]; and_intros <;> first | trivial | decide | omega) | (simp [AllP, condB]; intros; and_intros <;> first | assumption | omega)
    refine G.ret (endK.ret rfl ?_)
    first | (rw [spileref05_Between, h1]; done) | (rw [spileref05_Between, h1]; rfl)
  refine G.skip ?_
  refine G.seq ?_
  refine G.seqC tfine rfl ?_ ?_
  · first | trivial | (simp [AllP, condB]; done) | (simp only [AllP]; and_intros <;> first | trivial | decide | omega) | (simp [AllP, condB]; intros; and_intros <;> first | assumption | omega)
  refine GO.callPlain (v := I (spileref05_ready x0_0 x2 x1_0 (2 : Int)))  rfl rfl rfl rfl (fun args w => Try.call63 args w) (fun ρ w hm _ => spileref05_ready_any _ _ _ _ w) ?_
  refine GO.more tfine rfl ?_ ?_
  · first | trivial | (simp [AllP, condB]; done) | (simp only [AllP]; and_intros <;> first | trivial | decide | omega) | (simp [AllP, condB]; intros; and_intros <;> first | assumption | omega)
  refine GO.callGuard (I (spileref05_ready x0_1 x2 x1_1 (2 : Int))) rfl rfl rfl (by first | exact trivial | exact ⟨id, trivial⟩ | exact ⟨id, id, trivial⟩ | exact ⟨id, id, id, trivial⟩ | exact ⟨id, id, id, id, trivial⟩) rfl rfl (fun args w => Try.call63 args w) rfl (fun _ m' hle ρ w hs hok => spileref05_ready_any _ _ _ _ w) ?_
  refine GO.fin tfine rfl ?_ ?_
  · first | trivial | (simp [AllP, condB]; done) | (simp only [AllP]; and_intros <;> first | trivial | decide | omega) | (simp [AllP, condB]; intros; and_intros <;> first | assumption | omega)
  refine G.cond rfl (fun h2 => ?_) (fun h2 => ?_)
  · refine G.seqR tfine rfl ?_ ?_
    · first | trivial | (simp [AllP, condB]; done) | (simp only [AllP]; and_intros <;> first | trivial | decide | omega) | (simp [AllP, condB]; intros; and_intros <;> first | assumption | omega)
    refine G.ret (endK.ret rfl ?_)
    first | (rw [spileref05_Between, h1, h2]; done) | (rw [spileref05_Between, h1, h2]; rfl)
  refine G.skip ?_
  refine G.seqC tfine rfl ?_ ?_
  · first | trivial | (simp [AllP, condB]; done) | (simp only [AllP]; and_intros <;> first | trivial | decide | omega) | (simp [AllP, condB]; intros; and_intros <;> first | assumption | omega)
  refine GO.callPlain (v := .tuple #[I ((spileref05_To20 x0_0 x2 x1_1 (1 : Int)).1), I ((spileref05_To20 x0_0 x2 x1_1 (1 : Int)).2)])  rfl rfl rfl rfl (fun args w => Try.call64 args w) (fun ρ w hm _ => spileref05_To20_any _ _ _ _ w) ?_
  refine GO.fin tfine rfl ?_ ?_
  · first | trivial | (simp [AllP, condB]; done) | (simp only [AllP]; and_intros <;> first | trivial | decide | omega) | (simp [AllP, condB]; intros; and_intros <;> first | assumption | omega)
  refine G.seqC tfine rfl ?_ ?_
  · first | trivial | (simp [AllP, condB]; done) | (simp only [AllP]; and_intros <;> first | trivial | decide | omega) | (simp [AllP, condB]; intros; and_intros <;> first | assumption | omega)
  refine GO.callPlain (v := .tuple #[I ((spileref05_To20 x0_1 x2 x1_0 (2 : Int)).1), I ((spileref05_To20 x0_1 x2 x1_0 (2 : Int)).2)])  rfl rfl rfl rfl (fun args w => Try.call64 args w) (fun ρ w hm _ => spileref05_To20_any _ _ _ _ w) ?_
  refine GO.fin tfine rfl ?_ ?_
  · first | trivial | (simp [AllP, condB]; done) | (simp only [AllP]; and_intros <;> first | trivial | decide | omega) | (simp [AllP, condB]; intros; and_intros <;> first | assumption | omega)
  refine G.seq ?_
  refine G.seqR tfine rfl ?_ ?_
  · first | trivial | (simp [AllP, condB]; done) | (simp only [AllP]; and_intros <;> first | trivial | decide | omega) | (simp [AllP, condB]; intros; and_intros <;> first | assumption | omega)
  refine G.cond rfl (fun h3 => ?_) (fun h3 => ?_)
  · refine G.seqR tfine rfl ?_ ?_
    · first | trivial | (simp [AllP, condB]; done) | (simp only [AllP]; and_intros <;> first | trivial | decide | omega) | (simp [AllP, condB]; intros; and_intros <;> first | assumption | omega)
    refine G.ret (endK.ret rfl ?_)
    first | (rw [spileref05_Between, h1, h2, h3]; done) | (rw [spileref05_Between, h1, h2, h3]; rfl)
  refine G.skip ?_
  refine G.seqR tfine rfl ?_ ?_
  · first | trivial | (simp [AllP, condB]; done) | (simp only [AllP]; and_intros <;> first | trivial | decide | omega) | (simp [AllP, condB]; intros; and_intros <;> first | assumption | omega)
  refine G.ret (endK.ret rfl ?_)
  first | (rw [spileref05_Between, h1, h2, h3]; done) | (rw [spileref05_Between, h1, h2, h3]; rfl)
end Go.Proofs.Ytiicemgngccicaa
/- Chapter 05: the mean. -/
set_option linter.unusedVariables false
set_option linter.unusedSimpArgs false
set_option maxRecDepth 8000
namespace Go.Proofs.Ytiicemgngccicaa
open Go.Sx Go.RowKit
def cold (t : Int) : Bool := !thermal_heat t
theorem cold_false {l : List Int} (h : l.any cold = false) : ∀ x ∈ l, -400 ≤ x ∧ x ≤ 600 := by
  intro x hx
  have := List.any_eq_false.1 h x hx
  simpa [cold, thermal_heat] using this
theorem sum_all {l : List Int} (h : ∀ x ∈ l, -400 ≤ x ∧ x ≤ 600) (hm : l.length ≤ 64) (k : Nat) : -64000 ≤ (l.take k).sum ∧ (l.take k).sum ≤ 64000 := by
  have hb := sum_bound id 1000 (l.take k) fun x hx => by have := h x (List.mem_of_mem_take hx); show -1000 ≤ x ∧ x ≤ 1000; omega
  rw [List.map_id] at hb
  have hl : (l.take k).length ≤ 64 := by simp; omega
  omega
theorem take_sum (l : List Int) (k : Nat) (h : k < l.length) : (l.take (k + 1)).sum = (l.take k).sum + l.getD k 0 := by
  have := sum_take id l k h
  rw [List.map_id, List.map_id] at this
  exact this
def mean2 (l : List Int) (rule : Int) : Int × Int := if (!isB rule) = true then (0, 1) else if ((l.length : Int) == 0) = true then (0, 9) else if decide ((l.length : Int) > 64) = true then (0, 8) else if l.any cold = true then (0, 2) else ((quo3 l.sum l.length rule).1, (quo3 l.sum l.length rule).2.2)
end Go.Proofs.Ytiicemgngccicaa
/- Chapter 05: the bounds. -/
set_option linter.unusedVariables false
set_option linter.unusedSimpArgs false
set_option maxRecDepth 8000
set_option maxHeartbeats 1000000
namespace Go.Proofs.Ytiicemgngccicaa
open Go.Sx Go.RowKit
theorem brs2 {E : Env} {ρ : Val} {m : Mem} {w : World} (hs : SatM E ρ m w) {x y : Nat} {tx ty : TypeId} {cx cy : List Value} (hx : m x = some (.var tx (cx.map .k))) (hy : m y = some (.var ty (cy.map .k))) (hxy : x ≠ y) :
    Brs w [⟨1000, (ρ x).1, tx, cx⟩, ⟨1001, (ρ y).1, ty, cy⟩] := by
  have h9 := SatM.var hs hx
  have h10 := SatM.var hs hy
  have hne : (ρ x).1 ≠ (ρ y).1 := hs.ne x y _ _ hx hy trivial trivial hxy
  refine ⟨?_, ?_, ?_, ?_⟩
  · simp
  · simp
  · simp [hne, hne.symm]
  · simp [h9.2, h10.2]
def worse (a b : Int) : Int := if b > a then b else a
theorem end_any (n t by' rise worst : Int) (g1 g2 : Nat) (w : World) (h : Brs w [⟨1000, g1, 3, [I rise]⟩, ⟨1001, g2, 31, [I worst]⟩]) :
    Calls Try.prog 59 #[I n, I t, I by', .pointer (some ⟨g1, 0, none⟩), .pointer (some ⟨g2, 0, none⟩)] w fun e w' => e = .returned (I (thermal_To20 n rise t by').1) ∧ Fr w [g1, g2] w' ∧
      ∀ b ∈ ([⟨1000, 3, [I rise]⟩, ⟨1001, 31, [I (worse worst (thermal_To20 n rise t by').2)]⟩] : List Tn), ∀ g, (b.x, g) ∈ [(1000, g1), (1001, g2)] → w'.heap[g]? = some (.cells b.cs.toArray b.ty (0, 0)) := by
  refine enterBor tfine [⟨1000, 3, [I rise]⟩, ⟨1001, 31, [I (worse worst (thermal_To20 n rise t by').2)]⟩] Try.func59 rfl 23 Try.ntmps59 [.c (.k (I n)), .c (.k (I t)), .c (.k (I by')), .c (.ptr 1000 0 0 0), .c (.ptr 1001 0 0 0)] _ h rfl rfl ⟨trivial, trivial, trivial, ⟨_, .head _, rfl⟩, ⟨_, .tail _ (.head _), rfl⟩, trivial⟩ ?_
  refine G.seqR tfine rfl trivial ?_
  refine G.seqC tfine rfl trivial ?_
  refine GO.callPlain rfl rfl rfl rfl (fun args w => Try.call60 args w) (fun ρ w hm _ => thermal_To20_any n rise t by' w) ?_
  refine GO.fin tfine rfl trivial ?_
  refine G.seqR tfine rfl trivial ?_
  refine G.seqR tfine rfl trivial ?_
  exact G.ret ⟨.inl rfl, rfl, rfl, rfl, trivial⟩
def btw3 (a b s t rise : Int) : Int × Int × Int := if (decide (a > b) || decide (s > t)) = true then (0, 0, 1) else if ((((!(thermal_rises rise)) || (!(thermal_heat s))) || (!(thermal_heat t))) || (!(thermal_amount a)) || (!(thermal_amount b))) = true then (0, 0, 2)
  else if (worse (worse 0 (thermal_To20 a rise t 1).2) (thermal_To20 b rise s 2).2 != 0) = true then (0, 0, 15) else ((thermal_To20 a rise t 1).1, (thermal_To20 b rise s 2).1, 0)
theorem between_any (a b s t rise : Int) (w : World) : Calls Try.prog 36 #[.agg #[I a, I b], .agg #[I s, I t], I rise] w fun e w' => e = .returned (.tuple #[.agg #[I (btw3 a b s t rise).1, I (btw3 a b s t rise).2.1], I (btw3 a b s t rise).2.2]) ∧ Below w.heap.size w w' := by
  refine enterPlain tfine Try.func36 rfl 70 Try.ntmps36 [.agg [.k (I a), .k (I b)], .agg [.k (I s), .k (I t)], .c (.k (I rise))] [] rfl rfl trivial ⟨⟨trivial, trivial, trivial⟩, ⟨trivial, trivial, trivial⟩, trivial, trivial⟩ ?_
  refine G.seqR tfine rfl trivial ?_
  refine G.seq (G.seqR tfine rfl ?_ ?_)
  · simp [AllP, condB]
  refine G.cond rfl (fun h1 => ?_) (fun h1 => ?_)
  · refine G.seqR tfine rfl trivial ?_
    refine G.ret (endK.ret rfl ?_)
    rw [btw3, h1]; rfl
  refine G.skip ?_
  refine G.seq (G.seqC tfine rfl trivial ?_)
  refine GO.callPlain rfl rfl rfl rfl (fun args w => Try.call56 args w) (fun ρ w hm _ => thermal_rises_any _ w) ?_
  refine GO.more tfine rfl ?_ ?_
  · simp [AllP, condB]
  refine GO.callGuard (.bool (thermal_heat s)) rfl rfl rfl (by first | exact trivial | exact ⟨id, trivial⟩) rfl rfl (fun args w => Try.call57 args w) rfl (fun _ m' hle ρ w hs hok => thermal_heat_any _ w) ?_
  refine GO.more tfine rfl ?_ ?_
  · simp [AllP, condB]
  refine GO.callGuard (.bool (thermal_heat t)) rfl rfl rfl (by first | exact trivial | exact ⟨id, trivial⟩) rfl rfl (fun args w => Try.call57 args w) rfl (fun _ m' hle ρ w hs hok => thermal_heat_any _ w) ?_
  refine GO.more tfine rfl ?_ ?_
  · simp [AllP, condB]
  refine GO.callGuard (.bool (thermal_amount a)) rfl rfl rfl (by first | exact trivial | exact ⟨id, trivial⟩) rfl rfl (fun args w => Try.call58 args w) rfl (fun _ m' hle ρ w hs hok => thermal_amount_any _ w) ?_
  refine GO.more tfine rfl ?_ ?_
  · simp [AllP, condB]
  refine GO.callGuard (.bool (thermal_amount b)) rfl rfl rfl (by first | exact trivial | exact ⟨id, trivial⟩) rfl rfl (fun args w => Try.call58 args w) rfl (fun _ m' hle ρ w hs hok => thermal_amount_any _ w) ?_
  refine GO.fin tfine rfl ?_ ?_
  · simp [AllP, condB]
  refine G.cond rfl (fun h2 => ?_) (fun h2 => ?_)
  · refine G.seqR tfine rfl trivial ?_
    refine G.ret (endK.ret rfl ?_)
    rw [btw3, h1, h2]; rfl
  refine G.skip ?_
  refine G.seqR tfine rfl trivial ?_
  refine G.seqR tfine rfl trivial ?_
  refine G.seqDraw hmix [0, 0, 2, 0, 8, 31, 0, 0, 128, 0, 512, 2047, 4095, 0, 16383] [(5, 5), (5, 8), (11, 5), (11, 8), (14, 10)] rfl rfl rfl ?_
  refine GD.more tfine 0 rfl rfl trivial ?_
  refine GD.callTurn (v := I (thermal_To20 a rise t 1).1) [⟨5, 3, [I rise]⟩, ⟨8, 31, [I (worse 0 (thermal_To20 a rise t 1).2)]⟩] 5 rfl rfl rfl rfl rfl rfl (fun args w => Try.call59 args w) ?_ ?_ ?_
  · intro b hb
    simp only [List.mem_cons, List.not_mem_nil, or_false] at hb
    rcases hb with rfl | rfl <;> exact ⟨_, rfl⟩
  · intro m hle ρ w hs _
    have h5 : m 5 = some (.var 3 ([I rise].map .k)) := LeM.at hle rfl
    have h8 : m 8 = some (.var 31 ([I 0].map .k)) := LeM.at hle rfl
    have := end_any a t 1 rise 0 (ρ 5).1 (ρ 8).1 w (brs2 hs h5 h8 (by decide))
    have e : ([AV.c (.k (I a)), .c (.k (I t)), .c (.k (I 1))].map (AV.conc ρ) ++ [Cap.own 5 0, .own 8 0].map (Cap.conc ρ)).toArray = #[I a, I t, I 1, .pointer (some ⟨(ρ 5).1, 0, none⟩), .pointer (some ⟨(ρ 8).1, 0, none⟩)] := by
      simp [AV.conc, AC.conc, Cap.conc, (SatM.var hs h5).1, (SatM.var hs h8).1]
    refine e ▸ this.mono ?_
    rintro e w' ⟨rfl, hf, hn⟩
    refine ⟨rfl, hf, fun t ht => ?_⟩
    simp only [List.mem_cons, List.not_mem_nil, or_false] at ht
    rcases ht with rfl | rfl
    · exact hn _ (.head _) (ρ 5).1 (.head _)
    · exact hn _ (.tail _ (.head _)) (ρ 8).1 (.tail _ (.head _))
  refine GD.more tfine 6 rfl rfl trivial ?_
  refine GD.callTurn (v := I (thermal_To20 b rise s 2).1) [⟨5, 3, [I rise]⟩, ⟨8, 31, [I (worse (worse 0 (thermal_To20 a rise t 1).2) (thermal_To20 b rise s 2).2)]⟩] 11 rfl rfl rfl rfl rfl rfl (fun args w => Try.call59 args w) ?_ ?_ ?_
  · intro b hb
    simp only [List.mem_cons, List.not_mem_nil, or_false] at hb
    rcases hb with rfl | rfl <;> exact ⟨_, rfl⟩
  · intro m hle ρ w hs _
    have h5 : m 5 = some (.var 3 ([I rise].map .k)) := LeM.at hle rfl
    have h8 : m 8 = some (.var 31 ([I (worse 0 (thermal_To20 a rise t 1).2)].map .k)) := LeM.at hle rfl
    have := end_any b s 2 rise (worse 0 (thermal_To20 a rise t 1).2) (ρ 5).1 (ρ 8).1 w (brs2 hs h5 h8 (by decide))
    have e : ([AV.c (.k (I b)), .c (.k (I s)), .c (.k (I 2))].map (AV.conc ρ) ++ [Cap.own 5 0, .own 8 0].map (Cap.conc ρ)).toArray = #[I b, I s, I 2, .pointer (some ⟨(ρ 5).1, 0, none⟩), .pointer (some ⟨(ρ 8).1, 0, none⟩)] := by
      simp [AV.conc, AC.conc, Cap.conc, (SatM.var hs h5).1, (SatM.var hs h8).1]
    refine e ▸ this.mono ?_
    rintro e w' ⟨rfl, hf, hn⟩
    refine ⟨rfl, hf, fun t ht => ?_⟩
    simp only [List.mem_cons, List.not_mem_nil, or_false] at ht
    rcases ht with rfl | rfl
    · exact hn _ (.head _) (ρ 5).1 (.head _)
    · exact hn _ (.tail _ (.head _)) (ρ 8).1 (.tail _ (.head _))
  refine GD.fin tfine 12 rfl rfl trivial ?_
  refine G.seq (G.seqR tfine rfl trivial ?_)
  refine G.cond rfl (fun h3 => ?_) (fun h3 => ?_)
  · refine G.seqR tfine rfl trivial ?_
    refine G.ret (endK.ret rfl ?_)
    rw [btw3, h1, h2, h3]; rfl
  refine G.skip ?_
  refine G.seqR tfine rfl trivial ?_
  refine G.ret (endK.ret rfl ?_)
  rw [btw3, h1, h2, h3]; rfl
end Go.Proofs.Ytiicemgngccicaa
/- Chapter 05: program and reference compute the same; the examples of the chapter hold. -/
set_option linter.unusedVariables false
set_option linter.unusedSimpArgs false
set_option maxRecDepth 8000
set_option maxHeartbeats 1000000
namespace Go.Proofs.Ytiicemgngccicaa
open Go.Sx Go.RowKit
theorem cmp_api_Bounds : CmpT Try.prog 30 (Try.prog.fieldsOf 30) := ⟨by kernel_rfl, by kernel_rfl, by kernel_rfl, by kernel_rfl⟩
theorem amount_eq (v : Int) : thermal_amount v = amtB v := by
  unfold thermal_amount of3
  cases h : amtB v with
  | false => simp [h]
  | true =>
    have h1 : amtB 0 = true := rfl
    have h2 : amtB 1 = true := rfl
    have h3 : (dvd3 v.toNat 0 1).2.2 = true := by
      have : v.toNat * 0 / 1 = 0 := by simp
      rw [dvd3, this]; rfl
    simp [h, h1, h2, h3]
theorem rises_eq (r : Int) : thermal_rises r = !(decide (r < 0) || decide (r > 10000)) := by
  unfold thermal_rises
  rw [Bool.eq_iff_iff]
  simp
theorem heat_eq (t : Int) : spileref05_IsHeat t = thermal_heat t := rfl
theorem factor_eq (r t : Int) : spileref05_Factor r t = thermal_Factor r t := by
  unfold spileref05_Factor thermal_Factor
  rw [rises_eq, heat_eq, Bool.not_not]
  rfl
theorem of_eq {r t : Int} (h : (thermal_Factor r t).2 = 0) : (thermal_Factor r t).1 = spileref05_Of r t := by
  unfold thermal_Factor at h ⊢
  split at h
  · cases h
  · rename_i h1; rw [if_neg h1]; rfl
theorem ready_eq (v r t k : Int) : spileref05_ready v r t k = if (!isB k) = true then 1 else if ((thermal_Factor r t).2 != 0 || !(thermal_amount v)) = true then 2 else 0 := by
  unfold spileref05_ready
  rw [factor_eq, amount_eq]
theorem at_eq (v r t k : Int) : spileref05_At v r t k = thermal_At v r t k := by
  unfold spileref05_At thermal_At thermal_corrected
  rw [ready_eq]
  cases hk : isB k with
  | false => rfl
  | true =>
    cases h2 : ((thermal_Factor r t).2 != 0 || !(thermal_amount v)) with
    | true => rfl
    | false =>
      have h3 : (thermal_Factor r t).2 = 0 := by
        rw [Bool.or_eq_false_iff] at h2
        simpa using h2.1
      rw [of_eq h3]; rfl
theorem to20_eq (v r t k : Int) : spileref05_To20 v r t k = thermal_To20 v r t k := by
  unfold spileref05_To20 thermal_To20 thermal_corrected
  rw [ready_eq]
  cases hk : isB k with
  | false => rfl
  | true =>
    cases h2 : ((thermal_Factor r t).2 != 0 || !(thermal_amount v)) with
    | true => rfl
    | false =>
      have h3 : (thermal_Factor r t).2 = 0 := by
        rw [Bool.or_eq_false_iff] at h2
        simpa using h2.1
      rw [of_eq h3]; rfl
theorem of3_nonneg (a b c : Int) : 0 ≤ (of3 a b c).2.2 := by
  unfold of3
  split
  · decide
  · split
    · decide
    · split
      · decide
      · exact Int.le_refl 0
theorem prod2_nonneg (a b c k : Int) : 0 ≤ (prod2 a b c k).2 := by
  have := of3_nonneg a b c
  unfold prod2
  split
  · decide
  · split
    · exact this
    · repeat' split
      all_goals first | decide | exact Int.le_refl 0
theorem to20_nonneg (v r t k : Int) : 0 ≤ (thermal_To20 v r t k).2 := by
  have := prod2_nonneg v 10000000 (thermal_Factor r t).1 k
  unfold thermal_To20 thermal_corrected
  split
  · decide
  · split
    · decide
    · exact this
theorem worse_ne {a b : Int} (ha : 0 ≤ a) (hb : 0 ≤ b) : (worse (worse 0 a) b != 0) = ((a != 0) || (b != 0)) := by
  unfold worse
  rw [Bool.eq_iff_iff]
  simp only [bne_iff_ne, Bool.or_eq_true, ne_eq]
  split <;> split <;> omega
theorem btw_eq (a b s t r : Int) : spileref05_Between a b s t r = btw3 a b s t r := by
  unfold spileref05_Between btw3
  rw [worse_ne (to20_nonneg _ _ _ _) (to20_nonneg _ _ _ _)]
  simp only [to20_eq]
  have e : ((spileref05_ready a r s 2 != 0) || (spileref05_ready b r t 2 != 0)) = ((((!(thermal_rises r)) || (!(thermal_heat s))) || (!(thermal_heat t))) || (!(thermal_amount a)) || (!(thermal_amount b))) := by
    rw [ready_eq, ready_eq]
    unfold thermal_Factor
    rw [show isB 2 = true from rfl]
    cases thermal_rises r <;> cases thermal_heat s <;> cases thermal_heat t <;> cases thermal_amount a <;> cases thermal_amount b <;> rfl
  rw [e]
end Go.Proofs.Ytiicemgngccicaa
/- The symbolic executor, part V: rows in blocks of our own: functions that answer one, calls of them, and calls that turn one. Generic over P. -/
set_option linter.unusedVariables false
set_option linter.unusedSimpArgs false
namespace Go.Sx
open Go.RowKit
/-- n elements of sz cells from the head of a block of cells of type ty. -/
def OwnAt (w : World) (b : Nat) (ty : TypeId) (n sz : Nat) (el : Nat → List Value) (room : Nat) : Prop :=
  ∃ a : Array Value, w.heap[b]? = some (.cells a ty (0, 0)) ∧ n * sz + room ≤ a.size ∧ ∀ i, i < n → (el i).length = sz ∧ ∀ j, j < sz → a[i * sz + j]? = (el i)[j]?
theorem OwnAt.congr {w : World} {b : Nat} {ty : TypeId} {n sz : Nat} {el el' : Nat → List Value} {room : Nat} (h : OwnAt w b ty n sz el room) (he : ∀ i, i < n → el i = el' i) : OwnAt w b ty n sz el' room := by
  obtain ⟨a, h1, h2, h3⟩ := h
  exact ⟨a, h1, h2, fun i hi => by rw [← he i hi]; exact h3 i hi⟩
/-- A row that a call has made, in a block of its own. -/
def RdOwn (w w' : World) (v : Value) (ty : TypeId) (n sz : Nat) (el : Nat → List Value) : Prop :=
  (n = 0 ∧ ∃ A c, v = .slice A 0 c) ∨ ∃ b c, v = .slice (some ⟨b, 0, none⟩) n c ∧ w.heap.size ≤ b ∧ OwnAt w' b ty n sz el 0
theorem OwnAt.rd {w : World} {b : Nat} {ty : TypeId} {n sz : Nat} {el : Nat → List Value} {room : Nat} (h : OwnAt w b ty n sz el room) : b < w.heap.size ∧ ∀ i, i < n → (el i).length = sz ∧ ∀ j, j < sz → w.cell? ⟨b, 0 + (i * sz + j), none⟩ = (el i)[j]? := by
  obtain ⟨a, h1, h2, h3⟩ := h
  refine ⟨(Array.getElem?_eq_some_iff.1 h1).1, fun i hi => ⟨(h3 i hi).1, fun j hj => ?_⟩⟩
  rw [← (h3 i hi).2 j hj, Nat.zero_add]
  simp [World.cell?, h1]
section
variable {P : Program} {E : Env} {K : Exit → St → Prop} {T : Tab}
def ownAt (m : Mem) (ty : TypeId) (n sz : Nat) (el : Nat → List Value) : TV → Prop
  | .v (.c (.k (.slice _ len _))) => len = 0 ∧ n = 0
  | .v (.c (.slc x i0 sz' len _)) => len = n ∧ sz' = sz ∧ i0 = 0 ∧ match m x with
    | some (.arr ty2 sz2 n2 el2 _) => ty2 = ty ∧ sz2 = sz ∧ n ≤ n2 ∧ ∀ i, i < n → el i = el2 i
    | some (.var ty2 cells) => ty2 = ty ∧ ∃ vs : List Value, cells = vs.map .k ∧ n * sz ≤ vs.length ∧ ∀ i, i < n → el i = (vs.drop (i * sz)).take sz
    | _ => False
  | _ => False
theorem ownAt_v {m : Mem} {ty : TypeId} {n sz : Nat} {el : Nat → List Value} {tv : TV} (h : ownAt m ty n sz el tv) : ∃ av, tv = .v av := by
  unfold ownAt at h
  split at h
  · exact ⟨_, rfl⟩
  · exact ⟨_, rfl⟩
  · cases h
theorem ownAt_new {w0 : World} {N : Nat} {ρ : Val} {m : Mem} {w : World} (hm : SatM ⟨w0, [], N⟩ ρ m w) {ty : TypeId} {n sz : Nat} {el : Nat → List Value} {tv : TV} {v : Value} (hv : tv.rep ρ m v) (h : ownAt m ty n sz el tv) : RdOwn w0 w v ty n sz el := by
  unfold ownAt at h
  split at h
  · rename_i A len c
    obtain ⟨rfl, rfl⟩ := h
    exact .inl ⟨rfl, A, c, hv.2⟩
  · rename_i x i0 sz' len c
    obtain ⟨rfl, rfl, rfl, h⟩ := h
    split at h
    · rename_i ty2 sz2 n2 el2 room hx
      obtain ⟨rfl, rfl, h1, h2⟩ := h
      obtain ⟨h3, h4, a, h5, h6, h7⟩ := hm.ok x _ hx
      have hb : w0.heap.size ≤ (ρ x).1 := by
        rcases h4 with h | h
        · exact h
        · cases h
      refine .inr ⟨(ρ x).1, c, ?_, hb, a, h5, ?_, fun i hi => by rw [h2 i hi]; exact h7 i (by omega)⟩
      · have := hv.2
        simpa [AV.conc, AC.conc, h3] using this
      · have := Nat.mul_le_mul_right sz2 h1
        omega
    · rename_i ty2 cells hx
      obtain ⟨rfl, vs, rfl, h1, h2⟩ := h
      obtain ⟨h3, h4, h5, h6⟩ := hm.ok x _ hx
      have hb : w0.heap.size ≤ (ρ x).1 := by
        rcases h4 with h | h
        · exact h
        · cases h
      rw [map_conc_k] at h5
      refine .inr ⟨(ρ x).1, c, ?_, hb, vs.toArray, h5, by simpa using h1, fun i hi => ?_⟩
      · have := hv.2
        simpa [AV.conc, AC.conc, h3] using this
      · have hle : i * sz' + sz' ≤ len * sz' := by
          have := Nat.mul_le_mul_right sz' (show i + 1 ≤ len by omega)
          rwa [Nat.add_mul, Nat.one_mul] at this
        rw [h2 i hi]
        refine ⟨by simp; omega, fun j hj => ?_⟩
        rw [List.getElem?_take, if_pos hj, List.getElem?_drop]
        simp
    · cases h
  · cases h
def endOwn (T : Tab) (fn : Func) (ty : TypeId) (n sz : Nat) (el : Nat → List Value) : Exit → St → Prop := fun e st => (e = .ret ∨ e = .normal) ∧ ∃ r, fn.results.toList = [r] ∧ ownAt st.m ty n sz el (resOne T st r)
theorem enterOwn (hT : Tab.fine P T) {f : FuncId} {fn : Func} {c : Code} {args : Array Value} {w : World} (ty : TypeId) (n sz : Nat) (el : Nat → List Value) (hf : P.funcs[f]? = some fn) (hb : fn.body = some c) (N : Nat) (hN : fn.ntmps = N) (avs : List AV) (l : List Inp)
    (hargs : args = (avs.map (AV.conc (inpsV l))).toArray) (hl : Nat.ble avs.length N = true) (hr : allRd w l) (ha : allInps l avs)
    (h : G P ⟨w, [], N⟩ (endOwn T fn ty n sz el) c ⟨argsT avs, lkM (inpsM l)⟩) : Calls P f args w fun e w' => ∃ v, e = .returned v ∧ RdOwn w w' v ty n sz el ∧ Below w.heap.size w w' := by
  subst hN
  refine enter (E := ⟨w, [], fn.ntmps⟩) hf hb (inpsV l) (Sat.init hr ha hargs (Nat.le_of_ble_eq_true hl)) (h.mono fun e st hk => ⟨hk.1, fun ρ a w' hs => ?_⟩)
  obtain ⟨r, h1, h2⟩ := hk.2
  obtain ⟨av, hav⟩ := ownAt_v h2
  obtain ⟨h3, h4⟩ := resOne_run hT hs hav
  rw [hav] at h2
  exact ⟨_, results_one h1 h3, _, rfl, ownAt_new hs.mem (tv := .v av) (v := av.conc ρ) ⟨h4, rfl⟩ h2, hs.mem.fr.toBelow⟩
theorem endOwn.ret {fn : Func} {ty : TypeId} {n sz : Nat} {el : Nat → List Value} {st : St} {r : ResultVar} (h : fn.results.toList = [r]) (hr : ownAt st.m ty n sz el (resOne T st r)) : endOwn T fn ty n sz el .ret st := ⟨.inl rfl, r, h, hr⟩
/-- A row of ours that a call has made gets a name. -/
theorem SatM.newOwnB {ρ : Val} {m : Mem} {w w' : World} (h : SatM E ρ m w) (hb : Below w.heap.size w w') {x : Nat} (hx : m x = none) (hxb : x < 1000) {ty : TypeId} {n sz b : Nat} {el : Nat → List Value} (hn : w.heap.size ≤ b) (ho : OwnAt w' b ty n sz el 0) :
    (∀ y, (m y).isSome = true → up ρ x (b, 0) y = ρ y) ∧ SatM E (up ρ x (b, 0)) (up m x (some (.arr ty sz n el 0))) w' := by
  have h' := h.below hb
  have hρ : ∀ y, (m y).isSome = true → up ρ x (b, 0) y = ρ y := fun y hy => up_other _ _ (fun e => by subst e; simp [hx] at hy)
  refine ⟨hρ, h'.fr, fun q hq => ?_, fun y c hy => ?_, fun y z c d hy hz hc hd hne => ?_⟩
  · have := h.bo q hq
    rw [up_other _ _ (by omega)]; exact this
  · by_cases e : y = x
    · subst e
      rw [up_same] at hy
      injection hy with hy
      subst hy
      rw [BlkOK, up_same]
      exact ⟨rfl, .inl (Nat.le_trans h.fr.size hn), ho⟩
    · rw [up_other _ _ e] at hy
      have hk := h'.ok y c hy
      have ey : up ρ x (b, 0) y = ρ y := up_other _ _ e
      cases c with
      | var ty cells =>
        have hcm : cells.map (AC.conc (up ρ x (b, 0))) = cells.map (AC.conc ρ) := List.map_congr_left fun c hm => AC.conc_mono hρ (hk.2.2.2 c hm)
        exact ⟨by rw [ey]; exact hk.1, by rw [ey]; exact hk.2.1, by rw [ey, hcm]; exact hk.2.2.1, fun c hc => AC.ok_mono (fun z hz => isSome_up z hz) hρ (hk.2.2.2 c hc)⟩
      | arr ty sz n el room =>
        obtain ⟨h1, h2, a, ha, hs, he⟩ := hk
        exact ⟨by rw [ey]; exact h1, by rw [ey]; exact h2, a, by rw [ey]; exact ha, hs, he⟩
      | obj Q =>
        obtain ⟨h1, h2, a, ha, hs⟩ := hk
        exact ⟨by rw [ey]; exact h1, by rw [ey]; exact h2, a, by rw [ey]; exact ha, hs⟩
      | ro sz n el =>
        intro hn
        rw [ey]
        exact hk hn
  · by_cases e1 : y = x
    · by_cases e2 : z = x
      · exact absurd (e1.trans e2.symm) hne
      · subst e1
        rw [up_other _ _ e2] at hz
        rw [up_same, up_other _ _ e2]
        have := h.lt' hz hd
        simp only
        omega
    · rw [up_other _ _ e1] at hy
      by_cases e2 : z = x
      · subst e2
        rw [up_same, up_other _ _ e1]
        have := h.lt hy hc
        simp only
        omega
      · rw [up_other _ _ e2] at hz
        rw [up_other _ _ e1, up_other _ _ e2]
        exact h.ne y z c d hy hz hc hd hne
theorem GO.callOwn {ops : Array Oper} {rest : List Oper} {o : Oper} {c : Call} {f : FuncId} {avs : List AV} {caps : List Cap} {t : Nat → TV} {m : Mem} {x n sz : Nat} {ty : TypeId} {el : Nat → List Value} (hd : o.dst = some x) (hx : m x = none) (hxb : Nat.blt x 1000 = true) (hdN : Nat.blt x E.N = true)
    (hg : o.guard = none) (hop : o.op = .call c) (he : callE t c = .mk f avs caps)
    (hcf : ∀ (args : Array Value) (w : World), (callFunc f args).run P w = .ok (.enter f args) w)
    (hc : ∀ ρ w, SatM E ρ m w → (∀ v ∈ avs, v.ok ρ m) → Calls P f (avs.map (AV.conc ρ) ++ caps.map (Cap.conc ρ)).toArray w fun e w' => ∃ v, e = .returned v ∧ RdOwn w w' v ty n sz el ∧ Below w.heap.size w w')
    (k0 : n = 0 → ∀ A k, GO P E ops K rest ⟨up t x (.v (.c (.k (.slice A 0 k)))), m⟩)
    (k1 : 0 < n → ∀ k, GO P E ops K rest ⟨up t x (.v (.c (.slc x 0 sz n k))), up m x (some (.arr ty sz n el 0))⟩) : GO P E ops K (o :: rest) ⟨t, m⟩ := by
  intro ρ a w hs
  refine GO.call hg hop he hcf (fun ρ a w hs hok _ => (hc ρ w hs.mem hok).mono ?_) ρ a w hs
  rintro e w' ⟨v, rfl, hn, hb⟩
  by_cases h0 : n = 0
  · obtain ⟨A, k, rfl⟩ : ∃ A k, v = .slice A 0 k := by
      rcases hn with ⟨_, h⟩ | ⟨b, c, rfl, _⟩
      · exact h
      · exact ⟨_, _, by rw [h0]⟩
    refine ⟨_, ρ, _, rfl, ?_, k0 h0 A k⟩
    rw [hd]
    exact (hs.below hb).put (by simpa [Nat.blt_eq] using hdN) ⟨trivial, rfl⟩
  · rcases hn with ⟨h, _⟩ | ⟨b, k, rfl, hbn, ho⟩
    · exact absurd h h0
    obtain ⟨h1, h2⟩ := hs.mem.newOwnB hb hx (by simpa [Nat.blt_eq] using hxb) hbn ho
    have hmv := hs.move h2 (fun y hy => isSome_up y hy) h1
    refine ⟨_, up ρ x (b, 0), _, rfl, ?_, k1 (by omega) k⟩
    rw [hd]
    exact hmv.put (by simpa [Nat.blt_eq] using hdN) ⟨by simp [AV.ok, AC.ok, up_same], by simp [AV.conc, AC.conc, up_same]⟩

/-! ### Calls that turn a row of ours -/
theorem SatM.turnArr {ρ : Val} {m : Mem} {w w' : World} (h : SatM E ρ m w) {x n sz : Nat} {ty : TypeId} {el el' : Nat → List Value} {room : Nat} (hx : m x = some (.arr ty sz n el room)) (hf : Fr w [(ρ x).1] w') (ho : OwnAt w' (ρ x).1 ty n sz el' 0) : SatM E ρ (up m x (some (.arr ty sz n el' 0))) w' := by
  have hkx := h.ok x _ hx
  have hold : ∀ y b, up m x (some (.arr ty sz n el' 0)) y = some b → ∃ b0, m y = some b0 ∧ (b.own → b0.own) ∧ (b.live → b0.live) := by
    intro y b hy
    by_cases e : y = x
    · subst e
      rw [up_same] at hy
      injection hy with hy
      subst hy
      exact ⟨_, hx, fun _ => trivial, fun _ => trivial⟩
    · rw [up_other _ _ e] at hy
      exact ⟨b, hy, id, id⟩
  refine ⟨⟨hf.os.trans h.fr.os, hf.tape.trans h.fr.tape, hf.output.trans h.fr.output, Nat.le_trans h.fr.size hf.size, fun k hk hn => ?_⟩, h.bo, fun y b hy => ?_, fun y z c d hy hz hc hd hne => ?_⟩
  · refine (hf.block k (Nat.lt_of_lt_of_le hk h.fr.size) fun hmem => ?_).trans (h.fr.block k hk hn)
    have e : k = (ρ x).1 := by simpa using hmem
    rcases mem_bor hkx.2.1 with h1 | h1
    · omega
    · rw [← e] at h1; exact hn h1
  · by_cases e : y = x
    · subst e
      rw [up_same] at hy
      injection hy with hy
      subst hy
      exact ⟨hkx.1, hkx.2.1, ho⟩
    · rw [up_other _ _ e] at hy
      refine (h.ok y b hy).far (fun z hz => isSome_up z hz) hf.size fun hlive => ?_
      refine hf.block _ (h.lt' hy hlive) fun hmem => ?_
      have e2 : (ρ y).1 = (ρ x).1 := by simpa using hmem
      exact h.ne x y _ _ hx hy trivial hlive (fun e3 => e e3.symm) e2.symm
  · obtain ⟨c0, h1, h2, _⟩ := hold y c hy
    obtain ⟨d0, h3, _, h4⟩ := hold z d hz
    exact h.ne y z c0 d0 h1 h3 (h2 hc) (h4 hd) hne
theorem GO.callTurnArr {ops : Array Oper} {rest : List Oper} {o : Oper} {c : Call} {f : FuncId} {avs : List AV} {caps : List Cap} {t : Nat → TV} {m : Mem} {v : Value} {x n sz : Nat} {ty : TypeId} {el : Nat → List Value} {room : Nat} (el' : Nat → List Value) (hg : o.guard = none) (hop : o.op = .call c) (he : callE t c = .mk f avs caps) (hd : dstOk E.N o.dst = true)
    (hcf : ∀ (args : Array Value) (w : World), (callFunc f args).run P w = .ok (.enter f args) w) (hx : m x = some (.arr ty sz n el room))
    (hc : ∀ ρ w, SatM E ρ m w → (∀ v ∈ avs, v.ok ρ m) → OwnAt w (ρ x).1 ty n sz el room → (ρ x).2 = 0 → Calls P f (avs.map (AV.conc ρ) ++ caps.map (Cap.conc ρ)).toArray w fun e w' => e = .returned v ∧ Fr w [(ρ x).1] w' ∧ OwnAt w' (ρ x).1 ty n sz el' 0)
    (k : GO P E ops K rest ⟨Sx.putT t o.dst (toTV v), up m x (some (.arr ty sz n el' 0))⟩) : GO P E ops K (o :: rest) ⟨t, m⟩ := by
  refine GO.call hg hop he hcf (fun ρ a w hs hok _ => (hc ρ w hs.mem hok (hs.mem.ok x _ hx).2.2 (hs.mem.ok x _ hx).1).mono ?_)
  rintro e w' ⟨rfl, hf, hn⟩
  exact ⟨v, ρ, _, rfl, (hs.move (hs.mem.turnArr hx hf hn) (fun y hy => isSome_up y hy) (fun _ _ => rfl)).putT (dstOk_lt hd) (toTV_rep _ _ v), k⟩
def turnV (b : Nat) (x : Nat) : Nat × Nat := bif Nat.beq x 1000 then (b, 0) else (0, 0)
def AV.tn : AV → Prop
  | .c (.k _) => True
  | .c (.slc x ..) => x = 1000
  | _ => False
def allTn : List AV → Prop
  | [] => True
  | a :: r => a.tn ∧ allTn r
theorem allTn_mem {l : List AV} (h : allTn l) {a : AV} (ha : a ∈ l) : a.tn := by
  induction l with
  | nil => cases ha
  | cons b r ih =>
    cases ha with
    | head => exact h.1
    | tail _ ha => exact ih h.2 ha
def turnM (ty : TypeId) (sz n : Nat) (el : Nat → List Value) (room : Nat) : Mem := lkM [(1000, .arr ty sz n el room)]
theorem turnM_some {ty : TypeId} {sz n : Nat} {el : Nat → List Value} {room x : Nat} {b : Blk} (h : turnM ty sz n el room x = some b) : x = 1000 ∧ b = .arr ty sz n el room := by
  unfold turnM lkM at h
  cases hq : Nat.beq x 1000 with
  | true =>
    have e := Nat.eq_of_beq_eq_true hq
    subst e
    exact ⟨rfl, by simpa using h.symm⟩
  | false =>
    exfalso
    simp only [hq] at h
    simp [lkM] at h
theorem Sat.initTurn {w : World} {N : Nat} {avs : List AV} {b : Nat} {ty : TypeId} {sz n : Nat} {el : Nat → List Value} {room : Nat} (ho : OwnAt w b ty n sz el room) (ha : allTn avs) {args : Array Value} (hargs : args = (avs.map (AV.conc (turnV b))).toArray) (hN : avs.length ≤ N) :
    Sat ⟨w, [(1000, b)], N⟩ (turnV b) ⟨argsT avs, turnM ty sz n el room⟩ { tmps := args ++ Array.replicate (N - args.size) undef, defers := [] } w := by
  have hx0 : turnM ty sz n el room 1000 = some (.arr ty sz n el room) := rfl
  refine ⟨⟨Fr.refl _ _, fun p hp => ?_, fun x c hx => ?_, fun x y c d hx hy hc hd hne => ?_⟩, rfl, ?_, fun j => ?_⟩
  · simp only [List.mem_singleton] at hp
    subst hp
    exact ⟨rfl, Nat.le_refl _⟩
  · obtain ⟨rfl, rfl⟩ := turnM_some hx
    exact ⟨rfl, .inr (.head _), ho⟩
  · obtain ⟨rfl, rfl⟩ := turnM_some hx
    obtain ⟨rfl, rfl⟩ := turnM_some hy
    exact absurd rfl hne
  · subst hargs
    simp
    omega
  · show (argsT avs j).rep _ _ _
    unfold argsT
    cases hj : avs[j]? with
    | none => trivial
    | some a =>
      have hlt : j < avs.length := (List.getElem?_eq_some_iff.1 hj).1
      have hmem : a ∈ avs := List.mem_of_getElem? hj
      have htn := allTn_mem ha hmem
      refine ⟨?_, ?_⟩
      · cases a with
        | c a =>
          cases a with
          | k v => trivial
          | slc x i sz len cap =>
            have : x = 1000 := htn
            subst this
            show (turnM _ _ _ _ _ 1000).isSome = true
            rw [hx0]; rfl
          | _ => exact htn.elim
        | agg l => exact htn.elim
      · subst hargs
        simp only [Array.getD_eq_getD_getElem?]
        rw [Array.getElem?_append_left (by simpa using hlt)]
        simp [hj]
def endTurn (T : Tab) (fn : Func) (v : Value) (ty : TypeId) (n sz : Nat) (el : Nat → List Value) : Exit → St → Prop := fun e st => (e = .ret ∨ e = .normal) ∧ resP T st fn.results.toList = .mk v ∧ ∃ el2 room2, st.m 1000 = some (.arr ty sz n el2 room2) ∧ ∀ i, i < n → el2 i = el i
theorem enterTurn (hT : Tab.fine P T) {f : FuncId} {fn : Func} {c : Code} {args : Array Value} {w : World} {v : Value} {b : Nat} (ty : TypeId) (n sz : Nat) (el el' : Nat → List Value) (room : Nat) (hf : P.funcs[f]? = some fn) (hb : fn.body = some c) (N : Nat) (hN : fn.ntmps = N) (avs : List AV) (ho : OwnAt w b ty n sz el room)
    (hargs : args = (avs.map (AV.conc (turnV b))).toArray) (hl : Nat.ble avs.length N = true) (ha : allTn avs)
    (h : G P ⟨w, [(1000, b)], N⟩ (endTurn T fn v ty n sz el') c ⟨argsT avs, turnM ty sz n el room⟩) : Calls P f args w fun e w' => e = .returned v ∧ Fr w [b] w' ∧ OwnAt w' b ty n sz el' 0 := by
  subst hN
  refine enter (E := ⟨w, [(1000, b)], fn.ntmps⟩) hf hb (turnV b) (Sat.initTurn ho ha hargs (Nat.le_of_ble_eq_true hl)) (h.mono fun e st hk => ⟨hk.1, fun ρ a w' hs => ?_⟩)
  obtain ⟨_, h1, el2, room2, h2, h3⟩ := hk
  refine ⟨v, results_run hT hs h1, rfl, hs.mem.fr, ?_⟩
  obtain ⟨_, _, a, h4, h5, h6⟩ := hs.mem.ok 1000 _ h2
  have hρ := (hs.mem.bo (1000, b) (.head _)).1
  simp only at hρ
  rw [hρ] at h4
  exact ⟨a, h4, by omega, fun i hi => by rw [← h3 i hi]; exact h6 i hi⟩
theorem endTurn.ret {fn : Func} {v u : Value} {ty : TypeId} {n sz : Nat} {el el2 : Nat → List Value} {room2 : Nat} {st : St} (h : resP T st fn.results.toList = .mk u) (e : u = v) (h2 : st.m 1000 = some (.arr ty sz n el2 room2)) (h3 : ∀ i, i < n → el2 i = el i) : endTurn T fn v ty n sz el .ret st := ⟨.inl rfl, h.trans (congrArg VR.mk e), el2, room2, h2, h3⟩
theorem endTurn.norm {fn : Func} {v u : Value} {ty : TypeId} {n sz : Nat} {el el2 : Nat → List Value} {room2 : Nat} {st : St} (h : resP T st fn.results.toList = .mk u) (e : u = v) (h2 : st.m 1000 = some (.arr ty sz n el2 room2)) (h3 : ∀ i, i < n → el2 i = el i) : endTurn T fn v ty n sz el .normal st := ⟨.inr rfl, h.trans (congrArg VR.mk e), el2, room2, h2, h3⟩
end
end Go.Sx
/- The symbolic executor, part W: structs compared in regions that draw their order. Generic over P. -/
set_option linter.unusedVariables false
set_option linter.unusedSimpArgs false
namespace Go.Sx
open Go.RowKit
section
variable {P : Program} {E : Env} {K : Exit → St → Prop} {T : Tab} {l : List Oper} {cls : List Nat} {X0 : List (Nat × Nat)} {base : St}
theorem GD.structEq {recs : List DR} {o : Oper} {rest : List Oper} {tt : Nat → TV} {m : Mem} {t t' : TypeId} {fs : Array Field} {y z : Operand} (neg : Bool) (X Y : List Value) (r : Bool) (hr : eqR neg X Y = r) (hc : CmpT P t fs) (i : Nat) (hi : recs.length = i) (hg : o.guard = none) (hop : o.op = .binOp (eqOp neg) t y z t')
    (hy : evT (canF l cls X0 base i recs).t y = .v (.agg (X.map .k))) (hz : evT (canF l cls X0 base i recs).t z = .v (.agg (Y.map .k))) (hd : dstOk E.N o.dst = true)
    (hx : fitL P fs.toList X Y = true) (k : GD P E K l cls X0 base (⟨o, .v (.c (.k (.bool r))), []⟩ :: recs) rest (Sx.putT tt o.dst (.v (.c (.k (.bool r))))) m) : GD P E K l cls X0 base recs (o :: rest) tt m := by
  subst hr
  rw [canF_eq hi] at hy hz
  exact GD.step (Steps.structEq neg X Y hg hop hy hz hd hc hx) rfl k
theorem GD.structEqG {recs : List DR} {o : Oper} {rest : List Oper} {tt : Nat → TV} {m : Mem} {t t' : TypeId} {fs : Array Field} {y z : Operand} {j : Nat} {want cb : Bool} (neg : Bool) (X Y : List Value) (r : Bool) (hr : eqR neg X Y = r) (hc : CmpT P t fs) (i : Nat) (hi : recs.length = i) (hg : o.guard = some (j, want)) (hb : guardB l.toArray (canF l cls X0 base i recs).t j want = some cb) (hop : o.op = .binOp (eqOp neg) t y z t')
    (hob : AllP (stripObs (canF l cls X0 base i recs).t j want cb (slotsOf o.op.operands.toList)))
    (hy : evG (canF l cls X0 base i recs).t j want (slotsOf o.op.operands.toList) y = .v (.agg (X.map .k))) (hz : evG (canF l cls X0 base i recs).t j want (slotsOf o.op.operands.toList) z = .v (.agg (Y.map .k))) (hd : dstOk E.N o.dst = true)
    (hx : fitL P fs.toList X Y = true) (k : GD P E K l cls X0 base (⟨o, .grd j want cb (.c (.k (.bool r))), []⟩ :: recs) rest (Sx.putT tt o.dst (.grd j want cb (.c (.k (.bool r))))) m) : GD P E K l cls X0 base recs (o :: rest) tt m := by
  subst hr
  rw [canF_eq hi] at hb hob hy hz
  exact GD.step (Steps.structEqG neg X Y hg hb hop hob hy hz hd hc hx) rfl k
end
end Go.Sx
/- Chapter 15: readings, right reports, and their difference. -/
set_option linter.unusedVariables false
set_option linter.unusedSimpArgs false
set_option maxRecDepth 8000
set_option maxHeartbeats 1000000
namespace Go.Proofs.Ytiicemgngccicaa
open Go.Sx Go.RowKit
theorem refBetween_any (a b s t r : Int) (w : World) : Calls Try.prog 40 #[.agg #[I a, I b], .agg #[I s, I t], I r] w fun e w' => e = .returned (.tuple #[.agg #[I (btw3 a b s t r).1, I (btw3 a b s t r).2.1], I (btw3 a b s t r).2.2]) ∧ Below w.heap.size w w' := by
  have := spileref05_Between_any a b s t r w
  rwa [btw_eq] at this
def gauge_in (x0 : Int) (x1 : Int) (x2 : Int) : Bool := ((decide (x0 ≥ x1)) && (decide (x0 ≤ x2)))
theorem gauge_in_any (x0 : Int) (x1 : Int) (x2 : Int) (w : World) : Calls Try.prog 35 #[I x0, I x1, I x2] w fun e w' => e = .returned (.bool (gauge_in x0 x1 x2)) ∧ Below w.heap.size w w' := by
  refine enterPlain tfine Try.func35 rfl 15 Try.ntmps35 [.c (.k (I x0)), .c (.k (I x1)), .c (.k (I x2))] [] rfl rfl trivial ⟨trivial, trivial, trivial, trivial⟩ ?_
  refine G.seqR tfine rfl ?_ ?_
  · first | trivial | (simp [AllP, condB]; done) | (simp only [AllP]; and_intros <;> first | trivial | decide | omega) | (simp [AllP, condB]; intros; and_intros <;> first | assumption | omega)
  refine G.seqR tfine rfl ?_ ?_
  · first | trivial | (simp [AllP, condB]; done) | (simp only [AllP]; and_intros <;> first | trivial | decide | omega) | (simp [AllP, condB]; intros; and_intros <;> first | assumption | omega)
  refine G.ret (endK.ret rfl ?_)
  first | (rw [gauge_in]; done) | (rw [gauge_in]; rfl)
def gauge_times (x0_0 : Int) (x0_1 : Int) (x1 : Int) : Int × Int := (IntKind.i64.wrap (x0_0 * x1), IntKind.i64.wrap (x0_1 * x1))
theorem gauge_times_any (x0_0 : Int) (x0_1 : Int) (x1 : Int) (w : World) : Calls Try.prog 37 #[.agg #[I x0_0, I x0_1], I x1] w fun e w' => e = .returned (.agg #[I ((gauge_times x0_0 x0_1 x1).1), I ((gauge_times x0_0 x0_1 x1).2)]) ∧ Below w.heap.size w w' := by
  refine enterPlain tfine Try.func37 rfl 14 Try.ntmps37 [.agg [.k (I x0_0), .k (I x0_1)], .c (.k (I x1))] [] rfl rfl trivial ⟨⟨trivial, trivial, trivial⟩, trivial, trivial⟩ ?_
  refine G.seqR tfine rfl ?_ ?_
  · first | trivial | (simp [AllP, condB]; done) | (simp only [AllP]; and_intros <;> first | trivial | decide | omega) | (simp [AllP, condB]; intros; and_intros <;> first | assumption | omega)
  refine G.seqR tfine rfl ?_ ?_
  · first | trivial | (simp [AllP, condB]; done) | (simp only [AllP]; and_intros <;> first | trivial | decide | omega) | (simp [AllP, condB]; intros; and_intros <;> first | assumption | omega)
  refine G.ret (endK.ret rfl ?_)
  first | (rw [gauge_times]; done) | (rw [gauge_times]; rfl)
def spileref15_times (x0_0 : Int) (x0_1 : Int) (x1 : Int) : Int × Int := (IntKind.i64.wrap (x0_0 * x1), IntKind.i64.wrap (x0_1 * x1))
theorem spileref15_times_any (x0_0 : Int) (x0_1 : Int) (x1 : Int) (w : World) : Calls Try.prog 41 #[.agg #[I x0_0, I x0_1], I x1] w fun e w' => e = .returned (.agg #[I ((spileref15_times x0_0 x0_1 x1).1), I ((spileref15_times x0_0 x0_1 x1).2)]) ∧ Below w.heap.size w w' := by
  refine enterPlain tfine Try.func41 rfl 14 Try.ntmps41 [.agg [.k (I x0_0), .k (I x0_1)], .c (.k (I x1))] [] rfl rfl trivial ⟨⟨trivial, trivial, trivial⟩, trivial, trivial⟩ ?_
  refine G.seqR tfine rfl ?_ ?_
  · first | trivial | (simp [AllP, condB]; done) | (simp only [AllP]; and_intros <;> first | trivial | decide | omega) | (simp [AllP, condB]; intros; and_intros <;> first | assumption | omega)
  refine G.seqR tfine rfl ?_ ?_
  · first | trivial | (simp [AllP, condB]; done) | (simp only [AllP]; and_intros <;> first | trivial | decide | omega) | (simp [AllP, condB]; intros; and_intros <;> first | assumption | omega)
  refine G.ret (endK.ret rfl ?_)
  first | (rw [spileref15_times]; done) | (rw [spileref15_times]; rfl)
def spileref15_IsReading (x0_0 : Int) (x0_1 : Int) (x0_2 : Int) (x0_3 : Int) : Bool := (((((((decide (x0_0 ≥ (0 : Int))) && (decide (x0_0 ≤ (100000 : Int)))) && (decide (x0_1 ≥ (0 : Int)))) && (decide (x0_1 ≤ (200000 : Int)))) && (spileref05_IsHeat x0_2)) && (decide (x0_3 ≥ (0 : Int)))) && (decide (x0_3 ≤ (10000 : Int))))
theorem spileref15_IsReading_any (x0_0 : Int) (x0_1 : Int) (x0_2 : Int) (x0_3 : Int) (w : World) : Calls Try.prog 39 #[.agg #[I x0_0, I x0_1, I x0_2, I x0_3]] w fun e w' => e = .returned (.bool (spileref15_IsReading x0_0 x0_1 x0_2 x0_3)) ∧ Below w.heap.size w w' := by
  refine enterPlain tfine Try.func39 rfl 36 Try.ntmps39 [.agg [.k (I x0_0), .k (I x0_1), .k (I x0_2), .k (I x0_3)]] [] rfl rfl trivial ⟨⟨trivial, trivial, trivial, trivial, trivial⟩, trivial⟩ ?_
  refine G.seqR tfine rfl ?_ ?_
  · first | trivial | (simp [AllP, condB]; done) | (simp only [AllP]; and_intros <;> first | trivial | decide | omega) | (simp [AllP, condB]; intros; and_intros <;> first | assumption | omega)
  refine G.seqC tfine rfl ?_ ?_
  · first | trivial | (simp [AllP, condB]; done) | (simp only [AllP]; and_intros <;> first | trivial | decide | omega) | (simp [AllP, condB]; intros; and_intros <;> first | assumption | omega)
  refine GO.callGuard (.bool (spileref05_IsHeat x0_2)) rfl rfl rfl (by first | exact trivial | exact ⟨id, trivial⟩ | exact ⟨id, id, trivial⟩ | exact ⟨id, id, id, trivial⟩ | exact ⟨id, id, id, id, trivial⟩) rfl rfl (fun args w => Try.call61 args w) rfl (fun _ m' hle ρ w hs hok => spileref05_IsHeat_any _ w) ?_
  refine GO.fin tfine rfl ?_ ?_
  · first | trivial | (simp [AllP, condB]; done) | (simp only [AllP]; and_intros <;> first | trivial | decide | omega) | (simp [AllP, condB]; intros; and_intros <;> first | assumption | omega)
  refine G.ret (endK.ret rfl ?_)
  first | (rw [spileref15_IsReading]; done) | (rw [spileref15_IsReading]; rfl)
def gauge_Check (x0_0 : Int) (x0_1 : Int) (x0_2 : Int) (x0_3 : Int) : Int := if ((((!(gauge_in x0_0 (0 : Int) (100000 : Int))) || (!(gauge_in x0_1 (0 : Int) (200000 : Int)))) || (!(gauge_in x0_2 (-400 : Int) (600 : Int)))) || (!(gauge_in x0_3 (0 : Int) (10000 : Int)))) = true then ((2 : Int)) else ((0 : Int))
theorem gauge_Check_any (x0_0 : Int) (x0_1 : Int) (x0_2 : Int) (x0_3 : Int) (w : World) : Calls Try.prog 16 #[.agg #[I x0_0, I x0_1, I x0_2, I x0_3]] w fun e w' => e = .returned (I (gauge_Check x0_0 x0_1 x0_2 x0_3)) ∧ Below w.heap.size w w' := by
  refine enterPlain tfine Try.func16 rfl 25 Try.ntmps16 [.agg [.k (I x0_0), .k (I x0_1), .k (I x0_2), .k (I x0_3)]] [] rfl rfl trivial ⟨⟨trivial, trivial, trivial, trivial, trivial⟩, trivial⟩ ?_
  refine G.seqR tfine rfl ?_ ?_
  · first | trivial | (simp [AllP, condB]; done) | (simp only [AllP]; and_intros <;> first | trivial | decide | omega) | (simp [AllP, condB]; intros; and_intros <;> first | assumption | omega)
  refine G.seq ?_
  refine G.seqC tfine rfl ?_ ?_
  · first | trivial | (simp [AllP, condB]; done) | (simp only [AllP]; and_intros <;> first | trivial | decide | omega) | (simp [AllP, condB]; intros; and_intros <;> first | assumption | omega)
  refine GO.callPlain (v := .bool (gauge_in x0_0 (0 : Int) (100000 : Int)))  rfl rfl rfl rfl (fun args w => Try.call35 args w) (fun ρ w hm _ => gauge_in_any _ _ _ w) ?_
  refine GO.more tfine rfl ?_ ?_
  · first | trivial | (simp [AllP, condB]; done) | (simp only [AllP]; and_intros <;> first | trivial | decide | omega) | (simp [AllP, condB]; intros; and_intros <;> first | assumption | omega)
  refine GO.callGuard (.bool (gauge_in x0_1 (0 : Int) (200000 : Int))) rfl rfl rfl (by first | exact trivial | exact ⟨id, trivial⟩ | exact ⟨id, id, trivial⟩ | exact ⟨id, id, id, trivial⟩ | exact ⟨id, id, id, id, trivial⟩) rfl rfl (fun args w => Try.call35 args w) rfl (fun _ m' hle ρ w hs hok => gauge_in_any _ _ _ w) ?_
  refine GO.more tfine rfl ?_ ?_
  · first | trivial | (simp [AllP, condB]; done) | (simp only [AllP]; and_intros <;> first | trivial | decide | omega) | (simp [AllP, condB]; intros; and_intros <;> first | assumption | omega)
  refine GO.callGuard (.bool (gauge_in x0_2 (-400 : Int) (600 : Int))) rfl rfl rfl (by first | exact trivial | exact ⟨id, trivial⟩ | exact ⟨id, id, trivial⟩ | exact ⟨id, id, id, trivial⟩ | exact ⟨id, id, id, id, trivial⟩) rfl rfl (fun args w => Try.call35 args w) rfl (fun _ m' hle ρ w hs hok => gauge_in_any _ _ _ w) ?_
  refine GO.more tfine rfl ?_ ?_
  · first | trivial | (simp [AllP, condB]; done) | (simp only [AllP]; and_intros <;> first | trivial | decide | omega) | (simp [AllP, condB]; intros; and_intros <;> first | assumption | omega)
  refine GO.callGuard (.bool (gauge_in x0_3 (0 : Int) (10000 : Int))) rfl rfl rfl (by first | exact trivial | exact ⟨id, trivial⟩ | exact ⟨id, id, trivial⟩ | exact ⟨id, id, id, trivial⟩ | exact ⟨id, id, id, id, trivial⟩) rfl rfl (fun args w => Try.call35 args w) rfl (fun _ m' hle ρ w hs hok => gauge_in_any _ _ _ w) ?_
  refine GO.fin tfine rfl ?_ ?_
  · first | trivial | (simp [AllP, condB]; done) | (simp only [AllP]; and_intros <;> first | trivial | decide | omega) | (simp [AllP, condB]; intros; and_intros <;> first | assumption | omega)
  refine G.cond rfl (fun h1 => ?_) (fun h1 => ?_)
  · refine G.seqR tfine rfl ?_ ?_
    · first | trivial | (simp [AllP, condB]; done) | (simp only [AllP]; and_intros <;> first | trivial | decide | omega) | (simp [AllP, condB]; intros; and_intros <;> first | assumption | omega)
    refine G.ret (endK.ret rfl ?_)
    first | (rw [gauge_Check, if_pos h1]; done) | (rw [gauge_Check, if_pos h1]; rfl)
  refine G.skip ?_
  refine G.seqR tfine rfl ?_ ?_
  · first | trivial | (simp [AllP, condB]; done) | (simp only [AllP]; and_intros <;> first | trivial | decide | omega) | (simp [AllP, condB]; intros; and_intros <;> first | assumption | omega)
  refine G.ret (endK.ret rfl ?_)
  first | (rw [gauge_Check, if_neg (fne h1)]; done) | (rw [gauge_Check, if_neg (fne h1)]; rfl)
def spileref15_Check (x0_0 : Int) (x0_1 : Int) (x0_2 : Int) (x0_3 : Int) : Int := if (!(spileref15_IsReading x0_0 x0_1 x0_2 x0_3)) = true then ((2 : Int)) else ((0 : Int))
theorem spileref15_Check_any (x0_0 : Int) (x0_1 : Int) (x0_2 : Int) (x0_3 : Int) (w : World) : Calls Try.prog 17 #[.agg #[I x0_0, I x0_1, I x0_2, I x0_3]] w fun e w' => e = .returned (I (spileref15_Check x0_0 x0_1 x0_2 x0_3)) ∧ Below w.heap.size w w' := by
  refine enterPlain tfine Try.func17 rfl 6 Try.ntmps17 [.agg [.k (I x0_0), .k (I x0_1), .k (I x0_2), .k (I x0_3)]] [] rfl rfl trivial ⟨⟨trivial, trivial, trivial, trivial, trivial⟩, trivial⟩ ?_
  refine G.seqR tfine rfl ?_ ?_
  · first | trivial | (simp [AllP, condB]; done) | (simp only [AllP]; and_intros <;> first | trivial | decide | omega) | (simp [AllP, condB]; intros; and_intros <;> first | assumption | omega)
  refine G.seq ?_
  refine G.seqC tfine rfl ?_ ?_
  · first | trivial | (simp [AllP, condB]; done) | (simp only [AllP]; and_intros <;> first | trivial | decide | omega) | (simp [AllP, condB]; intros; and_intros <;> first | assumption | omega)
  refine GO.callPlain (v := .bool (spileref15_IsReading x0_0 x0_1 x0_2 x0_3))  rfl rfl rfl rfl (fun args w => Try.call39 args w) (fun ρ w hm _ => spileref15_IsReading_any _ _ _ _ w) ?_
  refine GO.fin tfine rfl ?_ ?_
  · first | trivial | (simp [AllP, condB]; done) | (simp only [AllP]; and_intros <;> first | trivial | decide | omega) | (simp [AllP, condB]; intros; and_intros <;> first | assumption | omega)
  refine G.cond rfl (fun h1 => ?_) (fun h1 => ?_)
  · refine G.seqR tfine rfl ?_ ?_
    · first | trivial | (simp [AllP, condB]; done) | (simp only [AllP]; and_intros <;> first | trivial | decide | omega) | (simp [AllP, condB]; intros; and_intros <;> first | assumption | omega)
    refine G.ret (endK.ret rfl ?_)
    first | (rw [spileref15_Check, if_pos h1]; done) | (rw [spileref15_Check, if_pos h1]; rfl)
  refine G.skip ?_
  refine G.seqR tfine rfl ?_ ?_
  · first | trivial | (simp [AllP, condB]; done) | (simp only [AllP]; and_intros <;> first | trivial | decide | omega) | (simp [AllP, condB]; intros; and_intros <;> first | assumption | omega)
  refine G.ret (endK.ret rfl ?_)
  first | (rw [spileref15_Check, if_neg (fne h1)]; done) | (rw [spileref15_Check, if_neg (fne h1)]; rfl)
def dip_volume (x0 : Int) : Bool := ((decide (x0 ≥ (0 : Int))) && (decide (x0 ≤ (4294967296 : Int))))
theorem dip_volume_any (x0 : Int) (w : World) : Calls Try.prog 53 #[I x0] w fun e w' => e = .returned (.bool (dip_volume x0)) ∧ Below w.heap.size w w' := by
  refine enterPlain tfine Try.func53 rfl 9 Try.ntmps53 [.c (.k (I x0))] [] rfl rfl trivial ⟨trivial, trivial⟩ ?_
  refine G.seqR tfine rfl ?_ ?_
  · first | trivial | (simp [AllP, condB]; done) | (simp only [AllP]; and_intros <;> first | trivial | decide | omega) | (simp [AllP, condB]; intros; and_intros <;> first | assumption | omega)
  refine G.seqR tfine rfl ?_ ?_
  · first | trivial | (simp [AllP, condB]; done) | (simp only [AllP]; and_intros <;> first | trivial | decide | omega) | (simp [AllP, condB]; intros; and_intros <;> first | assumption | omega)
  refine G.ret (endK.ret rfl ?_)
  first | (rw [dip_volume]; done) | (rw [dip_volume]; rfl)
def dip_Check_1 (x0_0 : Int) (x0_1 : Int) : Bool := (((decide (x0_0 < (0 : Int))) || (decide (x0_0 > (200000 : Int)))) || (!(dip_volume x0_1)))
theorem dip_Check_1_any (x0_0 : Int) (x0_1 : Int) (w : World) : Calls Try.prog 55 #[.agg #[I x0_0, I x0_1]] w fun e w' => e = .returned (.bool (dip_Check_1 x0_0 x0_1)) ∧ Below w.heap.size w w' := by
  refine enterPlain tfine Try.func55 rfl 17 Try.ntmps55 [.agg [.k (I x0_0), .k (I x0_1)]] [] rfl rfl trivial ⟨⟨trivial, trivial, trivial⟩, trivial⟩ ?_
  refine G.seqR tfine rfl ?_ ?_
  · first | trivial | (simp [AllP, condB]; done) | (simp only [AllP]; and_intros <;> first | trivial | decide | omega) | (simp [AllP, condB]; intros; and_intros <;> first | assumption | omega)
  refine G.seqC tfine rfl ?_ ?_
  · first | trivial | (simp [AllP, condB]; done) | (simp only [AllP]; and_intros <;> first | trivial | decide | omega) | (simp [AllP, condB]; intros; and_intros <;> first | assumption | omega)
  refine GO.callGuard (.bool (dip_volume x0_1)) rfl rfl rfl (by first | exact trivial | exact ⟨id, trivial⟩ | exact ⟨id, id, trivial⟩ | exact ⟨id, id, id, trivial⟩ | exact ⟨id, id, id, id, trivial⟩) rfl rfl (fun args w => Try.call53 args w) rfl (fun _ m' hle ρ w hs hok => dip_volume_any _ w) ?_
  refine GO.fin tfine rfl ?_ ?_
  · first | trivial | (simp [AllP, condB]; done) | (simp only [AllP]; and_intros <;> first | trivial | decide | omega) | (simp [AllP, condB]; intros; and_intros <;> first | assumption | omega)
  refine G.ret (endK.ret rfl ?_)
  first | (rw [dip_Check_1]; done) | (rw [dip_Check_1]; rfl)
def gauge_Right (x0_0 : Int) (x0_1 : Int) (x0_2 : Int) (x0_3 : Int) (x0_4 : Int) (x0_5 : Int) (x0_6 : Int) (x0_7 : Int) : Bool := ((((((gauge_Check x0_0 x0_1 x0_2 x0_3) == (0 : Int)) && (decide (x0_4 ≥ (0 : Int)))) && (decide (x0_4 ≤ x0_5))) && (decide (x0_5 ≤ (34359738368 : Int)))) && ((x0_6 == ((gauge_times x0_4 x0_5 x0_3).1)) && (x0_7 == ((gauge_times x0_4 x0_5 x0_3).2))))
theorem gauge_Right_any (x0_0 : Int) (x0_1 : Int) (x0_2 : Int) (x0_3 : Int) (x0_4 : Int) (x0_5 : Int) (x0_6 : Int) (x0_7 : Int) (w : World) : Calls Try.prog 18 #[.agg #[I x0_0, I x0_1, I x0_2, I x0_3, I x0_4, I x0_5, I x0_6, I x0_7]] w fun e w' => e = .returned (.bool (gauge_Right x0_0 x0_1 x0_2 x0_3 x0_4 x0_5 x0_6 x0_7)) ∧ Below w.heap.size w w' := by
  refine enterPlain tfine Try.func18 rfl 37 Try.ntmps18 [.agg [.k (I x0_0), .k (I x0_1), .k (I x0_2), .k (I x0_3), .k (I x0_4), .k (I x0_5), .k (I x0_6), .k (I x0_7)]] [] rfl rfl trivial ⟨⟨trivial, trivial, trivial, trivial, trivial, trivial, trivial, trivial, trivial⟩, trivial⟩ ?_
  refine G.seqR tfine rfl ?_ ?_
  · first | trivial | (simp [AllP, condB]; done) | (simp only [AllP]; and_intros <;> first | trivial | decide | omega) | (simp [AllP, condB]; intros; and_intros <;> first | assumption | omega)
  refine G.seqR tfine rfl ?_ ?_
  · first | trivial | (simp [AllP, condB]; done) | (simp only [AllP]; and_intros <;> first | trivial | decide | omega) | (simp [AllP, condB]; intros; and_intros <;> first | assumption | omega)
  refine G.seqDraw hmix [0, 1, 3, 7, 15, 31, 63, 127, 255, 511, 1023, 2047, 1023, 5119, 16383, 32767, 65535, 131071, 262143, 524287, 1048575, 2097151, 4194303, 8388607, 4194303, 4194303, 37748735, 104857599, 255852543, 536870911, 1073741823, 2147483647] [] rfl rfl rfl ?_
  refine GD.more tfine 0 rfl rfl ?_ ?_
  · first | trivial | (simp [AllP, condB]; done) | (simp only [AllP]; and_intros <;> first | trivial | decide | omega) | (simp [AllP, condB]; intros; and_intros <;> first | assumption | omega)
  refine GD.call (v := I (gauge_Check x0_0 x0_1 x0_2 x0_3)) 2 rfl rfl rfl rfl rfl (fun args w => Try.call16 args w) (fun m _ ρ w _ _ => gauge_Check_any _ _ _ _ w) ?_
  refine GD.more tfine 3 rfl rfl ?_ ?_
  · first | trivial | (simp [AllP, condB]; done) | (simp only [AllP]; and_intros <;> first | trivial | decide | omega) | (simp [AllP, condB]; intros; and_intros <;> first | assumption | omega)
  refine GD.callGuard (.agg #[I ((gauge_times x0_4 x0_5 x0_3).1), I ((gauge_times x0_4 x0_5 x0_3).2)]) 28 rfl rfl rfl rfl (by first | exact trivial | exact ⟨id, trivial⟩ | exact ⟨id, id, trivial⟩ | exact ⟨id, id, id, trivial⟩ | exact ⟨id, id, id, id, trivial⟩) rfl rfl (fun args w => Try.call37 args w) rfl (fun _ m _ ρ w _ _ => gauge_times_any _ _ _ w) ?_
  refine GD.structEqG false [I x0_6, I x0_7] [I ((gauge_times x0_4 x0_5 x0_3).1), I ((gauge_times x0_4 x0_5 x0_3).2)] (((x0_6 == ((gauge_times x0_4 x0_5 x0_3).1)) && (x0_7 == ((gauge_times x0_4 x0_5 x0_3).2)))) rfl cmp_api_Bounds 29 rfl rfl rfl rfl (by first | exact trivial | exact ⟨id, trivial⟩ | exact ⟨id, id, trivial⟩) rfl rfl rfl (by kernel_rfl) ?_
  refine GD.fin tfine 30 rfl rfl ?_ ?_
  · first | trivial | (simp [AllP, condB]; done) | (simp only [AllP]; and_intros <;> first | trivial | decide | omega) | (simp [AllP, condB]; intros; and_intros <;> first | assumption | omega)
  refine G.ret (endK.ret rfl ?_)
  first | (rw [gauge_Right]; done) | (rw [gauge_Right]; rfl)
def spileref15_Right (x0_0 : Int) (x0_1 : Int) (x0_2 : Int) (x0_3 : Int) (x0_4 : Int) (x0_5 : Int) (x0_6 : Int) (x0_7 : Int) : Bool := if ((((!(spileref15_IsReading x0_0 x0_1 x0_2 x0_3)) || (decide (x0_4 < (0 : Int)))) || (decide (x0_4 > x0_5))) || (decide (x0_5 > (34359738368 : Int)))) = true then (false) else (((x0_6 == ((spileref15_times x0_4 x0_5 x0_3).1)) && (x0_7 == ((spileref15_times x0_4 x0_5 x0_3).2))))
theorem spileref15_Right_any (x0_0 : Int) (x0_1 : Int) (x0_2 : Int) (x0_3 : Int) (x0_4 : Int) (x0_5 : Int) (x0_6 : Int) (x0_7 : Int) (w : World) : Calls Try.prog 28 #[.agg #[I x0_0, I x0_1, I x0_2, I x0_3, I x0_4, I x0_5, I x0_6, I x0_7]] w fun e w' => e = .returned (.bool (spileref15_Right x0_0 x0_1 x0_2 x0_3 x0_4 x0_5 x0_6 x0_7)) ∧ Below w.heap.size w w' := by
  refine enterPlain tfine Try.func28 rfl 37 Try.ntmps28 [.agg [.k (I x0_0), .k (I x0_1), .k (I x0_2), .k (I x0_3), .k (I x0_4), .k (I x0_5), .k (I x0_6), .k (I x0_7)]] [] rfl rfl trivial ⟨⟨trivial, trivial, trivial, trivial, trivial, trivial, trivial, trivial, trivial⟩, trivial⟩ ?_
  refine G.seqR tfine rfl ?_ ?_
  · first | trivial | (simp [AllP, condB]; done) | (simp only [AllP]; and_intros <;> first | trivial | decide | omega) | (simp [AllP, condB]; intros; and_intros <;> first | assumption | omega)
  refine G.seq ?_
  refine G.seqC tfine rfl ?_ ?_
  · first | trivial | (simp [AllP, condB]; done) | (simp only [AllP]; and_intros <;> first | trivial | decide | omega) | (simp [AllP, condB]; intros; and_intros <;> first | assumption | omega)
  refine GO.callPlain (v := .bool (spileref15_IsReading x0_0 x0_1 x0_2 x0_3))  rfl rfl rfl rfl (fun args w => Try.call39 args w) (fun ρ w hm _ => spileref15_IsReading_any _ _ _ _ w) ?_
  refine GO.fin tfine rfl ?_ ?_
  · first | trivial | (simp [AllP, condB]; done) | (simp only [AllP]; and_intros <;> first | trivial | decide | omega) | (simp [AllP, condB]; intros; and_intros <;> first | assumption | omega)
  refine G.cond rfl (fun h1 => ?_) (fun h1 => ?_)
  · refine G.seqR tfine rfl ?_ ?_
    · first | trivial | (simp [AllP, condB]; done) | (simp only [AllP]; and_intros <;> first | trivial | decide | omega) | (simp [AllP, condB]; intros; and_intros <;> first | assumption | omega)
    refine G.ret (endK.ret rfl ?_)
    first | (rw [spileref15_Right, if_pos h1]; done) | (rw [spileref15_Right, if_pos h1]; rfl)
  refine G.skip ?_
  refine G.seqDraw hmix [0, 1, 0, 4, 0, 16, 48, 124, 255, 511] [] rfl rfl rfl ?_
  refine GD.more tfine 0 rfl rfl ?_ ?_
  · first | trivial | (simp [AllP, condB]; done) | (simp only [AllP]; and_intros <;> first | trivial | decide | omega) | (simp [AllP, condB]; intros; and_intros <;> first | assumption | omega)
  refine GD.call (v := .agg #[I ((spileref15_times x0_4 x0_5 x0_3).1), I ((spileref15_times x0_4 x0_5 x0_3).2)]) 7 rfl rfl rfl rfl rfl (fun args w => Try.call41 args w) (fun m _ ρ w _ _ => spileref15_times_any _ _ _ w) ?_
  refine GD.structEq false [I x0_6, I x0_7] [I ((spileref15_times x0_4 x0_5 x0_3).1), I ((spileref15_times x0_4 x0_5 x0_3).2)] (((x0_6 == ((spileref15_times x0_4 x0_5 x0_3).1)) && (x0_7 == ((spileref15_times x0_4 x0_5 x0_3).2)))) rfl cmp_api_Bounds 8 rfl rfl rfl rfl rfl rfl (by kernel_rfl) ?_
  refine GD.fin tfine 9 rfl rfl ?_ ?_
  · first | trivial | (simp [AllP, condB]; done) | (simp only [AllP]; and_intros <;> first | trivial | decide | omega) | (simp [AllP, condB]; intros; and_intros <;> first | assumption | omega)
  refine G.ret (endK.ret rfl ?_)
  first | (rw [spileref15_Right, if_neg (fne h1)]; done) | (rw [spileref15_Right, if_neg (fne h1)]; rfl)
def gauge_Differ (x0_0 : Int) (x0_1 : Int) (x0_2 : Int) (x0_3 : Int) (x0_4 : Int) (x0_5 : Int) (x0_6 : Int) (x0_7 : Int) (x1 : Int) : Int × Int × Int × Int := if (!(gauge_Right x0_0 x0_1 x0_2 x0_3 x0_4 x0_5 x0_6 x0_7)) = true then ((0 : Int), (0 : Int), (0 : Int), (1 : Int)) else if (!(gauge_in x1 (0 : Int) (343597383680000 : Int))) = true then ((0 : Int), (0 : Int), (0 : Int), (2 : Int)) else if (gauge_in (0 : Int) (IntKind.i64.wrap (x1 - x0_7)) (IntKind.i64.wrap (x1 - x0_6))) = true then (IntKind.i64.wrap (x1 - x0_7), IntKind.i64.wrap (x1 - x0_6), (1 : Int), (0 : Int)) else (IntKind.i64.wrap (x1 - x0_7), IntKind.i64.wrap (x1 - x0_6), (2 : Int), (0 : Int))
theorem gauge_Differ_any (x0_0 : Int) (x0_1 : Int) (x0_2 : Int) (x0_3 : Int) (x0_4 : Int) (x0_5 : Int) (x0_6 : Int) (x0_7 : Int) (x1 : Int) (w : World) : Calls Try.prog 19 #[.agg #[I x0_0, I x0_1, I x0_2, I x0_3, I x0_4, I x0_5, I x0_6, I x0_7], I x1] w fun e w' => e = .returned (.tuple #[.agg #[I ((gauge_Differ x0_0 x0_1 x0_2 x0_3 x0_4 x0_5 x0_6 x0_7 x1).1), I ((gauge_Differ x0_0 x0_1 x0_2 x0_3 x0_4 x0_5 x0_6 x0_7 x1).2.1)], I ((gauge_Differ x0_0 x0_1 x0_2 x0_3 x0_4 x0_5 x0_6 x0_7 x1).2.2.1), I ((gauge_Differ x0_0 x0_1 x0_2 x0_3 x0_4 x0_5 x0_6 x0_7 x1).2.2.2)]) ∧ Below w.heap.size w w' := by
  refine enterPlain tfine Try.func19 rfl 34 Try.ntmps19 [.agg [.k (I x0_0), .k (I x0_1), .k (I x0_2), .k (I x0_3), .k (I x0_4), .k (I x0_5), .k (I x0_6), .k (I x0_7)], .c (.k (I x1))] [] rfl rfl trivial ⟨⟨trivial, trivial, trivial, trivial, trivial, trivial, trivial, trivial, trivial⟩, trivial, trivial⟩ ?_
  refine G.seqR tfine rfl ?_ ?_
  · first | trivial | (simp [AllP, condB]; done) | (simp only [AllP]; and_intros <;> first | trivial | decide | omega) | (simp [AllP, condB]; intros; and_intros <;> first | assumption | omega)
  refine G.seq ?_
  refine G.seqC tfine rfl ?_ ?_
  · first | trivial | (simp [AllP, condB]; done) | (simp only [AllP]; and_intros <;> first | trivial | decide | omega) | (simp [AllP, condB]; intros; and_intros <;> first | assumption | omega)
  refine GO.callPlain (v := .bool (gauge_Right x0_0 x0_1 x0_2 x0_3 x0_4 x0_5 x0_6 x0_7))  rfl rfl rfl rfl (fun args w => Try.call18 args w) (fun ρ w hm _ => gauge_Right_any _ _ _ _ _ _ _ _ w) ?_
  refine GO.fin tfine rfl ?_ ?_
  · first | trivial | (simp [AllP, condB]; done) | (simp only [AllP]; and_intros <;> first | trivial | decide | omega) | (simp [AllP, condB]; intros; and_intros <;> first | assumption | omega)
  refine G.cond rfl (fun h1 => ?_) (fun h1 => ?_)
  · refine G.seqR tfine rfl ?_ ?_
    · first | trivial | (simp [AllP, condB]; done) | (simp only [AllP]; and_intros <;> first | trivial | decide | omega) | (simp [AllP, condB]; intros; and_intros <;> first | assumption | omega)
    refine G.ret (endK.ret rfl ?_)
    first | (rw [gauge_Differ, if_pos h1]; done) | (rw [gauge_Differ, if_pos h1]; rfl)
  refine G.skip ?_
  refine G.seq ?_
  refine G.seqC tfine rfl ?_ ?_
  · first | trivial | (simp [AllP, condB]; done) | (simp only [AllP]; and_intros <;> first | trivial | decide | omega) | (simp [AllP, condB]; intros; and_intros <;> first | assumption | omega)
  refine GO.callPlain (v := .bool (gauge_in x1 (0 : Int) (343597383680000 : Int)))  rfl rfl rfl rfl (fun args w => Try.call35 args w) (fun ρ w hm _ => gauge_in_any _ _ _ w) ?_
  refine GO.fin tfine rfl ?_ ?_
  · first | trivial | (simp [AllP, condB]; done) | (simp only [AllP]; and_intros <;> first | trivial | decide | omega) | (simp [AllP, condB]; intros; and_intros <;> first | assumption | omega)
  refine G.cond rfl (fun h2 => ?_) (fun h2 => ?_)
  · refine G.seqR tfine rfl ?_ ?_
    · first | trivial | (simp [AllP, condB]; done) | (simp only [AllP]; and_intros <;> first | trivial | decide | omega) | (simp [AllP, condB]; intros; and_intros <;> first | assumption | omega)
    refine G.ret (endK.ret rfl ?_)
    first | (rw [gauge_Differ, if_neg (fne h1), if_pos h2]; done) | (rw [gauge_Differ, if_neg (fne h1), if_pos h2]; rfl)
  refine G.skip ?_
  refine G.seqR tfine rfl ?_ ?_
  · first | trivial | (simp [AllP, condB]; done) | (simp only [AllP]; and_intros <;> first | trivial | decide | omega) | (simp [AllP, condB]; intros; and_intros <;> first | assumption | omega)
  refine G.seq ?_
  refine G.seqC tfine rfl ?_ ?_
  · first | trivial | (simp [AllP, condB]; done) | (simp only [AllP]; and_intros <;> first | trivial | decide | omega) | (simp [AllP, condB]; intros; and_intros <;> first | assumption | omega)
  refine GO.callPlain (v := .bool (gauge_in (0 : Int) (IntKind.i64.wrap (x1 - x0_7)) (IntKind.i64.wrap (x1 - x0_6))))  rfl rfl rfl rfl (fun args w => Try.call35 args w) (fun ρ w hm _ => gauge_in_any _ _ _ w) (GO.nil ?_)
  refine G.cond rfl (fun h3 => ?_) (fun h3 => ?_)
  · refine G.seqR tfine rfl ?_ ?_
    · first | trivial | (simp [AllP, condB]; done) | (simp only [AllP]; and_intros <;> first | trivial | decide | omega) | (simp [AllP, condB]; intros; and_intros <;> first | assumption | omega)
    refine G.ret (endK.ret rfl ?_)
    first | (rw [gauge_Differ, if_neg (fne h1), if_neg (fne h2), if_pos h3]; done) | (rw [gauge_Differ, if_neg (fne h1), if_neg (fne h2), if_pos h3]; rfl)
  refine G.skip ?_
  refine G.seqR tfine rfl ?_ ?_
  · first | trivial | (simp [AllP, condB]; done) | (simp only [AllP]; and_intros <;> first | trivial | decide | omega) | (simp [AllP, condB]; intros; and_intros <;> first | assumption | omega)
  refine G.ret (endK.ret rfl ?_)
  first | (rw [gauge_Differ, if_neg (fne h1), if_neg (fne h2), if_neg (fne h3)]; done) | (rw [gauge_Differ, if_neg (fne h1), if_neg (fne h2), if_neg (fne h3)]; rfl)
def spileref15_Differ (x0_0 : Int) (x0_1 : Int) (x0_2 : Int) (x0_3 : Int) (x0_4 : Int) (x0_5 : Int) (x0_6 : Int) (x0_7 : Int) (x1 : Int) : Int × Int × Int × Int := if (!(spileref15_Right x0_0 x0_1 x0_2 x0_3 x0_4 x0_5 x0_6 x0_7)) = true then ((0 : Int), (0 : Int), (0 : Int), (1 : Int)) else if ((decide (x1 < (0 : Int))) || (decide (x1 > (343597383680000 : Int)))) = true then ((0 : Int), (0 : Int), (0 : Int), (2 : Int)) else if ((decide ((IntKind.i64.wrap (x1 - x0_7)) ≤ (0 : Int))) && (decide ((IntKind.i64.wrap (x1 - x0_6)) ≥ (0 : Int)))) = true then (IntKind.i64.wrap (x1 - x0_7), IntKind.i64.wrap (x1 - x0_6), (1 : Int), (0 : Int)) else (IntKind.i64.wrap (x1 - x0_7), IntKind.i64.wrap (x1 - x0_6), (2 : Int), (0 : Int))
theorem spileref15_Differ_any (x0_0 : Int) (x0_1 : Int) (x0_2 : Int) (x0_3 : Int) (x0_4 : Int) (x0_5 : Int) (x0_6 : Int) (x0_7 : Int) (x1 : Int) (w : World) : Calls Try.prog 27 #[.agg #[I x0_0, I x0_1, I x0_2, I x0_3, I x0_4, I x0_5, I x0_6, I x0_7], I x1] w fun e w' => e = .returned (.tuple #[.agg #[I ((spileref15_Differ x0_0 x0_1 x0_2 x0_3 x0_4 x0_5 x0_6 x0_7 x1).1), I ((spileref15_Differ x0_0 x0_1 x0_2 x0_3 x0_4 x0_5 x0_6 x0_7 x1).2.1)], I ((spileref15_Differ x0_0 x0_1 x0_2 x0_3 x0_4 x0_5 x0_6 x0_7 x1).2.2.1), I ((spileref15_Differ x0_0 x0_1 x0_2 x0_3 x0_4 x0_5 x0_6 x0_7 x1).2.2.2)]) ∧ Below w.heap.size w w' := by
  refine enterPlain tfine Try.func27 rfl 40 Try.ntmps27 [.agg [.k (I x0_0), .k (I x0_1), .k (I x0_2), .k (I x0_3), .k (I x0_4), .k (I x0_5), .k (I x0_6), .k (I x0_7)], .c (.k (I x1))] [] rfl rfl trivial ⟨⟨trivial, trivial, trivial, trivial, trivial, trivial, trivial, trivial, trivial⟩, trivial, trivial⟩ ?_
  refine G.seqR tfine rfl ?_ ?_
  · first | trivial | (simp [AllP, condB]; done) | (simp only [AllP]; and_intros <;> first | trivial | decide | omega) | (simp [AllP, condB]; intros; and_intros <;> first | assumption | omega)
  refine G.seq ?_
  refine G.seqC tfine rfl ?_ ?_
  · first | trivial | (simp [AllP, condB]; done) | (simp only [AllP]; and_intros <;> first | trivial | decide | omega) | (simp [AllP, condB]; intros; and_intros <;> first | assumption | omega)
  refine GO.callPlain (v := .bool (spileref15_Right x0_0 x0_1 x0_2 x0_3 x0_4 x0_5 x0_6 x0_7))  rfl rfl rfl rfl (fun args w => Try.call28 args w) (fun ρ w hm _ => spileref15_Right_any _ _ _ _ _ _ _ _ w) ?_
  refine GO.fin tfine rfl ?_ ?_
  · first | trivial | (simp [AllP, condB]; done) | (simp only [AllP]; and_intros <;> first | trivial | decide | omega) | (simp [AllP, condB]; intros; and_intros <;> first | assumption | omega)
  refine G.cond rfl (fun h1 => ?_) (fun h1 => ?_)
  · refine G.seqR tfine rfl ?_ ?_
    · first | trivial | (simp [AllP, condB]; done) | (simp only [AllP]; and_intros <;> first | trivial | decide | omega) | (simp [AllP, condB]; intros; and_intros <;> first | assumption | omega)
    refine G.ret (endK.ret rfl ?_)
    first | (rw [spileref15_Differ, if_pos h1]; done) | (rw [spileref15_Differ, if_pos h1]; rfl)
  refine G.skip ?_
  refine G.seq ?_
  refine G.seqR tfine rfl ?_ ?_
  · first | trivial | (simp [AllP, condB]; done) | (simp only [AllP]; and_intros <;> first | trivial | decide | omega) | (simp [AllP, condB]; intros; and_intros <;> first | assumption | omega)
  refine G.cond rfl (fun h2 => ?_) (fun h2 => ?_)
  · refine G.seqR tfine rfl ?_ ?_
    · first | trivial | (simp [AllP, condB]; done) | (simp only [AllP]; and_intros <;> first | trivial | decide | omega) | (simp [AllP, condB]; intros; and_intros <;> first | assumption | omega)
    refine G.ret (endK.ret rfl ?_)
    first | (rw [spileref15_Differ, if_neg (fne h1), if_pos h2]; done) | (rw [spileref15_Differ, if_neg (fne h1), if_pos h2]; rfl)
  refine G.skip ?_
  refine G.seqR tfine rfl ?_ ?_
  · first | trivial | (simp [AllP, condB]; done) | (simp only [AllP]; and_intros <;> first | trivial | decide | omega) | (simp [AllP, condB]; intros; and_intros <;> first | assumption | omega)
  refine G.seq ?_
  refine G.seqR tfine rfl ?_ ?_
  · first | trivial | (simp [AllP, condB]; done) | (simp only [AllP]; and_intros <;> first | trivial | decide | omega) | (simp [AllP, condB]; intros; and_intros <;> first | assumption | omega)
  refine G.cond rfl (fun h3 => ?_) (fun h3 => ?_)
  · refine G.seqR tfine rfl ?_ ?_
    · first | trivial | (simp [AllP, condB]; done) | (simp only [AllP]; and_intros <;> first | trivial | decide | omega) | (simp [AllP, condB]; intros; and_intros <;> first | assumption | omega)
    refine G.ret (endK.ret rfl ?_)
    first | (rw [spileref15_Differ, if_neg (fne h1), if_neg (fne h2), if_pos h3]; done) | (rw [spileref15_Differ, if_neg (fne h1), if_neg (fne h2), if_pos h3]; rfl)
  refine G.skip ?_
  refine G.seqR tfine rfl ?_ ?_
  · first | trivial | (simp [AllP, condB]; done) | (simp only [AllP]; and_intros <;> first | trivial | decide | omega) | (simp [AllP, condB]; intros; and_intros <;> first | assumption | omega)
  refine G.ret (endK.ret rfl ?_)
  first | (rw [spileref15_Differ, if_neg (fne h1), if_neg (fne h2), if_neg (fne h3)]; done) | (rw [spileref15_Differ, if_neg (fne h1), if_neg (fne h2), if_neg (fne h3)]; rfl)
end Go.Proofs.Ytiicemgngccicaa
/- The symbolic executor, part X: closures that read one captured variable (which may hold a slice that came in). Generic over P. -/
set_option linter.unusedVariables false
set_option linter.unusedSimpArgs false
namespace Go.Sx
open Go.RowKit
def capV (l : List Inp) (g : Nat) (x : Nat) : Nat × Nat := bif Nat.beq x 1900 then (g, 0) else inpsV l x
def capM (l : List Inp) (ty : TypeId) (cells : List AC) (x : Nat) : Option Blk := bif Nat.beq x 1900 then some (.var ty cells) else lkM (inpsM l) x
def AC.cap (l : List Inp) : AC → Prop
  | .k _ => True
  | .inp x A len _ => inpIn l x A len
  | .ptr x _ _ _ => x = 1900
  | _ => False
def allACc (l : List Inp) : List AC → Prop
  | [] => True
  | a :: r => a.cap l ∧ allACc l r
def AV.cap (l : List Inp) : AV → Prop
  | .c a => a.cap l
  | .agg cs => allACc l cs
def allCaps (l : List Inp) : List AV → Prop
  | [] => True
  | a :: r => a.cap l ∧ allCaps l r
def apartG (g : Nat) : List Inp → Prop
  | [] => True
  | i :: r => i.x ≠ 1900 ∧ (0 < i.n → ∀ a, i.A = some a → a.block ≠ g) ∧ apartG g r
theorem allACc_mem {l : List Inp} {cs : List AC} (h : allACc l cs) : ∀ a ∈ cs, a.cap l := by
  induction cs with
  | nil => intro a ha; cases ha
  | cons b r ih =>
    intro a ha
    cases ha with
    | head => exact h.1
    | tail _ ha => exact ih h.2 a ha
theorem allAC_mem' {l : List Inp} {cs : List AC} (h : allAC l cs) : ∀ a ∈ cs, a.inps l := AV.inps_mem h
theorem conc_inps {l : List Inp} {cs : List AC} (h : allAC l cs) (ρ ρ' : Val) : cs.map (AC.conc ρ) = cs.map (AC.conc ρ') := by
  refine List.map_congr_left fun a ha => ?_
  have := allAC_mem' h a ha
  cases a with
  | k v => rfl
  | inp x A len cap => rfl
  | _ => cases this
theorem inpIn_ne {l : List Inp} {g : Nat} (h : apartG g l) {A : Option Addr} {len : Nat} : ¬ inpIn l 1900 A len := by
  induction l with
  | nil => exact id
  | cons i r ih =>
    rintro (⟨e, _⟩ | ⟨_, e⟩)
    · exact h.1 e
    · exact ih h.2.2 e
theorem lkM_ne {l : List Inp} {g : Nat} (h : apartG g l) : lkM (inpsM l) 1900 = none := by
  induction l with
  | nil => rfl
  | cons i r ih =>
    have hb : Nat.beq 1900 i.x = false := by
      cases hb : Nat.beq 1900 i.x with
      | false => rfl
      | true => exact absurd (Nat.eq_of_beq_eq_true hb).symm h.1
    simp only [inpsM, lkM, hb, cond_false]
    exact ih h.2.2
theorem apart_at {l : List Inp} {g : Nat} (h : apartG g l) {x n sz : Nat} {el : Nat → List Value} (hx : lkM (inpsM l) x = some (.ro sz n el)) {w : World} (hr : allRd w l) (h0 : 0 < n) : (inpsV l x).1 ≠ g := by
  induction l with
  | nil => cases hx
  | cons i r ih =>
    cases hb : Nat.beq x i.x with
    | true =>
      simp only [inpsM, lkM, hb, cond_true] at hx
      injection hx with hx
      injection hx with e1 e2 e3
      subst e2
      obtain ⟨b, o, e, _⟩ := hr.1 h0
      simp only [inpsV, hb, cond_true, e]
      exact h.2.1 h0 _ e
    | false =>
      simp only [inpsM, lkM, hb, cond_false] at hx
      simp only [inpsV, hb, cond_false]
      exact ih h.2.2 hx hr.2
theorem Sat.initCap {w : World} {N : Nat} {avs : List AV} {l : List Inp} {g : Nat} {ty : TypeId} {cells : List AC} (hr : allRd w l) (hap : apartG g l) (hcs : allAC l cells) (hg : w.heap[g]? = some (.cells (cells.map (AC.conc (capV l g))).toArray ty (0, 0)))
    (ha : allCaps l avs) {args : Array Value} (hargs : args = (avs.map (AV.conc (capV l g))).toArray) (hN : avs.length ≤ N) :
    Sat ⟨w, [(1900, g)], N⟩ (capV l g) ⟨argsT avs, capM l ty cells⟩ { tmps := args ++ Array.replicate (N - args.size) undef, defers := [] } w := by
  have v19 : capV l g 1900 = (g, 0) := by simp only [capV, Nat.beq_refl, cond_true]
  have m19 : capM l ty cells 1900 = some (.var ty cells) := by simp only [capM, Nat.beq_refl, cond_true]
  have vne : ∀ x, Nat.beq x 1900 = false → capV l g x = inpsV l x := fun x h => by simp only [capV, h, cond_false]
  have mne : ∀ x, Nat.beq x 1900 = false → capM l ty cells x = lkM (inpsM l) x := fun x h => by simp only [capM, h, cond_false]
  have hin : ∀ x A len cap, inpIn l x A len → AC.ok (capV l g) (capM l ty cells) (.inp x A len cap) := by
    intro x A len cap h
    have hb : Nat.beq x 1900 = false := by
      cases hb : Nat.beq x 1900 with
      | false => rfl
      | true => have := Nat.eq_of_beq_eq_true hb; subst this; exact absurd h (inpIn_ne hap)
    have := inp_ok (cap := cap) hr h
    refine ⟨by rw [mne x hb]; exact this.1, fun h0 => by rw [vne x hb]; exact this.2 h0⟩
  have hAC : ∀ a : AC, a.cap l → a.ok (capV l g) (capM l ty cells) := by
    intro a h
    cases a with
    | k v => trivial
    | inp x A len cap => exact hin x A len cap h
    | ptr x i sz off =>
      have : x = 1900 := h
      subst this
      show (capM l ty cells 1900).isSome = true
      rw [m19]; rfl
    | _ => cases h
  refine ⟨⟨Fr.refl _ _, fun p hp => ?_, fun x b hx => ?_, fun x y b c hx hy hb hc hne => ?_⟩, rfl, ?_, fun j => ?_⟩
  · simp only [List.mem_singleton] at hp
    subst hp
    exact ⟨v19, by show 1000 ≤ 1900; decide⟩
  · cases hb : Nat.beq x 1900 with
    | true =>
      have := Nat.eq_of_beq_eq_true hb
      subst this
      have hx : capM l ty cells 1900 = some b := hx
      rw [m19] at hx
      injection hx with hx
      subst hx
      refine ⟨by rw [v19], .inr (by rw [v19]; exact .head _), by rw [v19]; exact hg, fun a ha => ?_⟩
      have := allAC_mem' hcs a ha
      cases a with
      | k v => trivial
      | inp x A len cap => exact hin x A len cap this
      | _ => cases this
    | false =>
      have hx : capM l ty cells x = some b := hx
      rw [mne x hb] at hx
      obtain ⟨A, n, sz, el, rfl, h2, h3⟩ := lkM_inps hx hr
      intro h0
      obtain ⟨b, o, rfl, h4, h5⟩ := h2 h0
      rw [vne x hb, h3]
      exact ⟨h4, h5⟩
  · cases hbx : Nat.beq x 1900 with
    | true =>
      have := Nat.eq_of_beq_eq_true hbx
      subst this
      have hby : Nat.beq y 1900 = false := by
        cases hby : Nat.beq y 1900 with
        | false => rfl
        | true => exact absurd (Nat.eq_of_beq_eq_true hby).symm hne
      have hy : capM l ty cells y = some c := hy
      rw [mne y hby] at hy
      obtain ⟨A, n, sz, el, rfl, h2, h3⟩ := lkM_inps hy hr
      rw [vne y hby, v19]
      exact (apart_at hap hy hr hc).symm
    | false =>
      have hx : capM l ty cells x = some b := hx
      rw [mne x hbx] at hx
      obtain ⟨A, n, sz, el, rfl, _⟩ := lkM_inps hx hr
      exact hb.elim
  · subst hargs
    simp
    omega
  · show (argsT avs j).rep _ _ _
    unfold argsT
    cases hj : avs[j]? with
    | none => trivial
    | some a =>
      have hlt : j < avs.length := (List.getElem?_eq_some_iff.1 hj).1
      have hmem : a ∈ avs := List.mem_of_getElem? hj
      have hin : a.cap l := by
        clear hj hlt hargs hN
        induction avs with
        | nil => cases hmem
        | cons b r ih =>
          cases hmem with
          | head => exact ha.1
          | tail _ hm => exact ih ha.2 hm
      refine ⟨?_, ?_⟩
      · cases a with
        | c a => exact hAC a hin
        | agg cs => exact fun a h => hAC a (allACc_mem hin a h)
      · subst hargs
        simp only [Array.getD_eq_getD_getElem?]
        rw [Array.getElem?_append_left (by simpa using hlt)]
        simp [hj]
section
variable {P : Program} {T : Tab}
def endCap (T : Tab) (fn : Func) (v : Value) (ty : TypeId) (cells : List AC) : Exit → St → Prop := fun e st => (e = .ret ∨ e = .normal) ∧ resP T st fn.results.toList = .mk v ∧ st.m 1900 = some (.var ty cells)
theorem enterCap (hT : Tab.fine P T) {f : FuncId} {fn : Func} {c : Code} {args : Array Value} {w : World} {v : Value} {g : Nat} (ty : TypeId) (cells : List AC) (hf : P.funcs[f]? = some fn) (hb : fn.body = some c) (N : Nat) (hN : fn.ntmps = N) (avs : List AV) (l : List Inp) (hap : apartG g l)
    (hg : w.heap[g]? = some (.cells (cells.map (AC.conc (capV l g))).toArray ty (0, 0))) (hargs : args = (avs.map (AV.conc (capV l g))).toArray) (hl : Nat.ble avs.length N = true) (hr : allRd w l) (hcs : allAC l cells) (ha : allCaps l avs)
    (h : G P ⟨w, [(1900, g)], N⟩ (endCap T fn v ty cells) c ⟨argsT avs, capM l ty cells⟩) : Calls P f args w fun e w' => e = .returned v ∧ Below w.heap.size w w' := by
  subst hN
  refine enter (E := ⟨w, [(1900, g)], fn.ntmps⟩) hf hb (capV l g) (Sat.initCap hr hap hcs hg ha hargs (Nat.le_of_ble_eq_true hl)) (h.mono fun e st hk => ⟨hk.1, fun ρ a w' hs => ?_⟩)
  obtain ⟨_, h1, h2⟩ := hk
  refine ⟨v, results_run hT hs h1, rfl, ?_⟩
  have hfr := hs.mem.fr
  obtain ⟨_, _, h4, _⟩ := hs.mem.ok 1900 _ h2
  have hρ := (hs.mem.bo (1900, g) (.head _)).1
  simp only at hρ
  rw [hρ, conc_inps hcs ρ (capV l g)] at h4
  exact ⟨hfr.os, hfr.tape, hfr.output, hfr.size, fun k hk => by
    by_cases e : k = g
    · subst e; rw [h4, hg]
    · exact hfr.block k hk (by simpa using e)⟩
theorem endCap.ret {fn : Func} {v u : Value} {ty : TypeId} {cells : List AC} {st : St} (h : resP T st fn.results.toList = .mk u) (e : u = v) (h2 : st.m 1900 = some (.var ty cells)) : endCap T fn v ty cells .ret st := ⟨.inl rfl, h.trans (congrArg VR.mk e), h2⟩
end
end Go.Sx
/- Chapter 15: rows of marks and of reports; the table's faults. -/
set_option linter.unusedVariables false
set_option linter.unusedSimpArgs false
set_option maxRecDepth 8000
set_option maxHeartbeats 1000000
namespace Go.Proofs.Ytiicemgngccicaa
open Go.Sx Go.RowKit
def elM (l : List (Int × Int)) (i : Nat) : List Value := [I (l.getD i (0, 0)).1, I (l.getD i (0, 0)).2]
theorem indexFuncM_any (f : FuncId) (q : (Int × Int) → Bool) (hcf : ∀ args w, (callFunc f args).run Try.prog w = .ok (.enter f args) w)
    (hf : ∀ v w, Calls Try.prog f #[.agg #[I v.1, I v.2]] w fun e w' => e = .returned (.bool (q v)) ∧ Below w.heap.size w w') (A : Option Addr) (c : Nat) (l : List (Int × Int)) (w : World) (hl : RdRow w A l.length 2 (elM l)) (hm : l.length ≤ 4611686018427387904) :
    Calls Try.prog 67 #[.slice A l.length c, .func (.func f) #[] #[]] w fun e w' => e = .returned (I (firstI (fun k => q (l.getD k (0, 0))) 0 l.length)) ∧ Below w.heap.size w w' := by
  refine enterPlain tfine Try.func67 rfl 19 Try.ntmps67 [.c (.inp 1000 A l.length c), .c (.k (.func (.func f) #[] #[]))] [⟨1000, A, 2, l.length, elM l⟩] rfl rfl ⟨hl, trivial⟩ ⟨.inl ⟨rfl, rfl, rfl⟩, trivial, trivial⟩ ?_
  refine G.seqR tfine rfl trivial ?_
  refine G.seq (G.seqR tfine rfl trivial ?_)
  refine G.block (G.loop (fun k : Nat => St.of [(0, .v (.c (.inp 1000 A l.length c))), (1, .v (.c (.k (.func (.func f) #[] #[])))), (7, .v (.c (.k (I l.length)))), (8, .v (.c (.k (I k))))] [(1000, .ro 2 l.length (elM l))])
    (fun k => k ≤ l.length ∧ firstI (fun k => q (l.getD k (0, 0))) 0 l.length = firstI (fun k => q (l.getD k (0, 0))) k (l.length - k)) (fun k => l.length - k) 0 ⟨by omega, by simp⟩ (St.le_of rfl ⟨⟨_, rfl, Blk.le_refl _⟩, trivial⟩ ⟨rfl, rfl, rfl, rfl, trivial⟩) ?_)
  rintro k ⟨hk, hfi⟩
  refine G.seqR tfine rfl trivial ?_
  refine G.seq (G.cond rfl (fun h => ?_) (fun h => ?_))
  rotate_left
  · have h := of_decide_eq_false h
    have : k = l.length := by omega
    subst this
    refine G.exit ?_
    refine G.seqR tfine rfl trivial ?_
    refine G.ret (endK.ret rfl ?_)
    rw [hfi]
    simp [firstI]
  have h := of_decide_eq_true h
  have hlt : k < l.length := by omega
  refine G.skip ?_
  refine G.seq (G.block ?_)
  refine G.seqR tfine rfl trivial ?_
  refine G.seqC tfine rfl ⟨by simpa using hlt, by omega, by omega, trivial⟩ ?_
  rw [Int.toNat_natCast]
  refine GO.callPlain rfl rfl rfl rfl hcf (fun ρ w hm _ => hf _ w) (GO.nil ?_)
  have hs : l.length - k = (l.length - (k + 1)) + 1 := by omega
  rw [hs, firstI] at hfi
  refine G.cond rfl (fun h2 => ?_) (fun h2 => ?_)
  · refine G.seqR tfine rfl trivial ?_
    refine G.ret (endK.ret rfl ?_)
    rw [hfi, if_pos h2]
  · refine G.skip ?_
    refine G.reg tfine rfl trivial ?_
    rw [IntWalk.i64_in _ (by omega)]
    rw [if_neg (by simpa using h2)] at hfi
    exact ⟨k + 1, ⟨by omega, hfi⟩, (by show l.length - (k + 1) < l.length - k; omega), St.le_of rfl ⟨⟨_, rfl, Blk.le_refl _⟩, trivial⟩ ⟨rfl, rfl, rfl, by simp [up, I], trivial⟩⟩
theorem containsFuncM_any (f : FuncId) (q : (Int × Int) → Bool) (hcf : ∀ args w, (callFunc f args).run Try.prog w = .ok (.enter f args) w)
    (hf : ∀ v w, Calls Try.prog f #[.agg #[I v.1, I v.2]] w fun e w' => e = .returned (.bool (q v)) ∧ Below w.heap.size w w') (A : Option Addr) (c : Nat) (l : List (Int × Int)) (w : World) (hl : RdRow w A l.length 2 (elM l)) (hm : l.length ≤ 4611686018427387904) :
    Calls Try.prog 54 #[.slice A l.length c, .func (.func f) #[] #[]] w fun e w' => e = .returned (.bool (decide (firstI (fun k => q (l.getD k (0, 0))) 0 l.length ≥ 0))) ∧ Below w.heap.size w w' := by
  refine enterPlain tfine Try.func54 rfl 9 Try.ntmps54 [.c (.inp 1000 A l.length c), .c (.k (.func (.func f) #[] #[]))] [⟨1000, A, 2, l.length, elM l⟩] rfl rfl ⟨hl, trivial⟩ ⟨.inl ⟨rfl, rfl, rfl⟩, trivial, trivial⟩ ?_
  refine G.seqR tfine rfl trivial ?_
  refine G.seqC tfine rfl trivial ?_
  refine GO.callPlain rfl rfl rfl rfl (fun args w => Try.call67 args w) (fun ρ w hs hok => indexFuncM_any f q hcf hf A c l w (hs.row rfl (hok _ List.mem_cons_self)) hm) ?_
  refine GO.fin tfine rfl trivial ?_
  exact G.ret (endK.ret rfl rfl)
theorem any_getDg {α : Type} (q : α → Bool) (l : List α) (d : α) : (List.range' 0 l.length).any (fun k => q (l.getD k d)) = l.any q := by
  have : l.map q = (List.range' 0 l.length).map (fun k => q (l.getD k d)) := by
    apply List.ext_getElem?
    intro i
    rw [List.getElem?_map, List.getElem?_map]
    by_cases h : i < l.length
    · rw [List.getElem?_range' h, List.getElem?_eq_getElem h]
      simp [List.getD_eq_getElem?_getD, h]
    · rw [List.getElem?_eq_none (by omega), List.getElem?_eq_none (by simp; omega)]
      rfl
  have h2 : ∀ (l : List α), l.any q = (l.map q).any id := by intro l; simp [List.any_map]
  rw [h2, this]
  simp [List.any_map]
theorem getD_mem {α : Type} {l : List α} {k : Nat} {d : α} (h : k < l.length) : l.getD k d ∈ l := by
  rw [List.getD_eq_getElem?_getD, List.getElem?_eq_getElem h]; exact List.getElem_mem h
def badM (m : Int × Int) : Bool := dip_Check_1 m.1 m.2
def badP (a b : Int × Int) : Bool := (decide (a.1 ≥ b.1)) || (decide (a.2 > b.2))
def badPs (l : List (Int × Int)) : Bool := (List.range' 1 (l.length - 1)).any fun k => badP (l.getD (k - 1) (0, 0)) (l.getD k (0, 0))
theorem badPs_true {l : List (Int × Int)} {k : Nat} (h1 : 1 ≤ k) (h2 : k < l.length) (h : badP (l.getD (k - 1) (0, 0)) (l.getD k (0, 0)) = true) : badPs l = true :=
  List.any_eq_true.2 ⟨k, by rw [List.mem_range'_1]; omega, h⟩
theorem badPs_false {l : List (Int × Int)} (h : ∀ k, 1 ≤ k → k < l.length → badP (l.getD (k - 1) (0, 0)) (l.getD k (0, 0)) = false) : badPs l = false := by
  rw [badPs, List.any_eq_false]
  intro k hk
  rw [List.mem_range'_1] at hk
  rw [h k hk.1 (by omega)]
  simp
def tabE (l : List (Int × Int)) (tol : Int) : Int := if decide ((l.length : Int) < 2) = true then 9 else if decide ((l.length : Int) > 128) = true then 8 else if (!(dip_volume tol) || l.any badM) = true then 2 else if badPs l = true then 5 else 0
theorem dipCheck_any (A : Option Addr) (c : Nat) (l : List (Int × Int)) (tol : Int) (w : World) (hl : RdRow w A l.length 2 (elM l)) (hm : l.length ≤ 4611686018427387904) :
    Calls Try.prog 34 #[.agg #[.slice A l.length c, I tol]] w fun e w' => e = .returned (I (tabE l tol)) ∧ Below w.heap.size w w' := by
  refine enterPlain tfine Try.func34 rfl 53 Try.ntmps34 [.agg [.inp 1000 A l.length c, .k (I tol)]] [⟨1000, A, 2, l.length, elM l⟩] rfl rfl ⟨hl, trivial⟩ ⟨⟨.inl ⟨rfl, rfl, rfl⟩, trivial, trivial⟩, trivial⟩ ?_
  refine G.seqR tfine rfl trivial ?_
  refine G.seq (G.seqR tfine rfl trivial ?_)
  refine G.cond rfl (fun h1 => ?_) (fun h1 => ?_)
  · refine G.seqR tfine rfl trivial ?_
    refine G.ret (endK.ret rfl ?_)
    rw [tabE, if_pos h1]
  refine G.skip ?_
  refine G.seq (G.seqR tfine rfl trivial ?_)
  refine G.cond rfl (fun h2 => ?_) (fun h2 => ?_)
  · refine G.seqR tfine rfl trivial ?_
    refine G.ret (endK.ret rfl ?_)
    rw [tabE, if_neg (fne h1), if_pos h2]
  refine G.skip ?_
  refine G.seq (G.seqC tfine rfl trivial ?_)
  refine GO.callPlain (v := .bool (dip_volume tol)) rfl rfl rfl rfl (fun args w => Try.call53 args w) (fun ρ w hm _ => dip_volume_any _ w) ?_
  refine GO.more tfine rfl ?_ ?_
  · simp [AllP, condB]
  refine GO.callGuard (.bool (l.any badM)) rfl rfl rfl (by first | exact trivial | exact ⟨id, trivial⟩) rfl rfl (fun args w => Try.call54 args w) rfl (fun _ m' hle ρ w hs hok => ?_) ?_
  · have := containsFuncM_any 55 badM (fun args w => Try.call55 args w) (fun v w => dip_Check_1_any v.1 v.2 w) A c l w (hs.row (hle.at rfl) (hok _ List.mem_cons_self)) hm
    rw [firstI_any, any_getDg] at this
    exact this
  refine GO.fin tfine rfl ?_ ?_
  · simp [AllP, condB]
  refine G.cond rfl (fun h3 => ?_) (fun h3 => ?_)
  · refine G.seqR tfine rfl trivial ?_
    refine G.ret (endK.ret rfl ?_)
    rw [tabE, if_neg (fne h1), if_neg (fne h2), if_pos h3]
  refine G.skip ?_
  have h1' := of_decide_eq_false h1
  have h2' := of_decide_eq_false h2
  refine G.seq (G.seqR tfine rfl trivial ?_)
  refine G.block (G.loop (fun k : Nat => St.of [(1, .v (.c (.ptr 1 0 0 0))), (3, .v (.c (.k (I k))))] [(1, .var 24 [.inp 1000 A l.length c, .k (I tol)]), (1000, .ro 2 l.length (elM l))])
    (fun k => 1 ≤ k ∧ k ≤ l.length ∧ ∀ j, 1 ≤ j → j < k → badP (l.getD (j - 1) (0, 0)) (l.getD j (0, 0)) = false) (fun k => l.length - k) 1 ⟨Nat.le_refl _, by omega, fun j h4 h5 => by omega⟩
    (St.le_of rfl ⟨⟨_, rfl, Blk.le_refl _⟩, ⟨_, rfl, Blk.le_refl _⟩, trivial⟩ ⟨rfl, rfl, trivial⟩) ?_)
  rintro k ⟨hk1, hk2, hpre⟩
  refine G.seq (G.seqR tfine rfl trivial ?_)
  refine G.cond rfl (fun h => ?_) (fun h => ?_)
  rotate_left
  · have h := of_decide_eq_false h
    refine G.exit ?_
    refine G.seqR tfine rfl trivial ?_
    refine G.ret (endK.ret rfl ?_)
    rw [tabE, if_neg (fne h1), if_neg (fne h2), if_neg (fne h3), badPs_false fun j h4 h5 => hpre j h4 (by omega)]
    rfl
  have h := of_decide_eq_true h
  have hlt : k < l.length := by omega
  have e1 : IntKind.i64.wrap ((k : Int) - 1) = (k : Int) - 1 := IntWalk.i64_in _ (by omega)
  have e2 : ((k : Int) - 1).toNat = k - 1 := by omega
  refine G.skip ?_
  refine G.seq (G.block ?_)
  refine G.seqD tfine hmix [0, 1, 0, 4, 15, 31, 0, 64, 0, 448, 960, 0, 0, 6207, 16383] [(13, 4), (14, 5)] rfl rfl rfl rfl ?_ ?_
  · rw [e1]
    simp [AllP]
    omega
  rw [e1, e2, Int.toNat_natCast]
  refine G.seqR tfine rfl ?_ ?_
  · simp [AllP, condB]
  refine G.cond (b := badP (l.getD (k - 1) (0, 0)) (l.getD k (0, 0))) rfl (fun h6 => ?_) (fun h6 => ?_)
  · refine G.seqR tfine rfl trivial ?_
    refine G.ret (endK.ret rfl ?_)
    rw [tabE, if_neg (fne h1), if_neg (fne h2), if_neg (fne h3), badPs_true hk1 hlt h6]
    rfl
  refine G.skip ?_
  refine G.reg tfine rfl trivial ?_
  rw [IntWalk.i64_in ((k : Int) + 1) (by omega)]
  refine ⟨k + 1, ⟨by omega, hlt, fun j h7 h8 => ?_⟩, (by show l.length - (k + 1) < l.length - k; omega), St.le_of rfl ⟨⟨_, rfl, Blk.le_refl _⟩, ⟨_, rfl, Blk.le_refl _⟩, trivial⟩ ⟨rfl, rfl, trivial⟩⟩
  by_cases e : j = k
  · rw [e]; exact h6
  · exact hpre j h7 (by omega)
end Go.Proofs.Ytiicemgngccicaa
/- Chapter 15: the reference's check of a table, the reading, and the wet volume. -/
set_option linter.unusedVariables false
set_option linter.unusedSimpArgs false
set_option maxRecDepth 8000
set_option maxHeartbeats 1000000
namespace Go.Proofs.Ytiicemgngccicaa
open Go.Sx Go.RowKit
theorem any_of_false {α : Type} {q : α → Bool} {l : List α} {d : α} (h : ∀ j, j < l.length → q (l.getD j d) = false) : l.any q = false := by
  rw [List.any_eq_false]
  intro x hx
  obtain ⟨i, hi, rfl⟩ := List.mem_iff_getElem.1 hx
  have := h i hi
  rw [List.getD_eq_getElem?_getD, List.getElem?_eq_getElem hi] at this
  simpa using this
theorem any_of_true {α : Type} {q : α → Bool} {l : List α} {d : α} {k : Nat} (hk : k < l.length) (h : q (l.getD k d) = true) : l.any q = true := List.any_eq_true.2 ⟨_, getD_mem hk, h⟩
def badM2 (m : Int × Int) : Bool := (((decide (m.1 < 0)) || (decide (m.1 > 200000))) || (decide (m.2 < 0))) || (decide (m.2 > 4294967296))
theorem badM2_eq (m : Int × Int) : badM2 m = badM m := by
  rw [Bool.eq_iff_iff]
  simp [badM2, badM, dip_Check_1, dip_volume]
  omega
theorem vol_eq (t : Int) : ((decide (t < 0)) || (decide (t > 4294967296))) = !(dip_volume t) := by
  rw [Bool.eq_iff_iff]
  simp [dip_volume]
theorem tabE_ok {l : List (Int × Int)} {tol : Int} (h : tabE l tol = 0) : 2 ≤ l.length ∧ l.length ≤ 128 ∧ (0 ≤ tol ∧ tol ≤ 4294967296) ∧ (∀ j, j < l.length → (0 ≤ (l.getD j (0, 0)).1 ∧ (l.getD j (0, 0)).1 ≤ 200000) ∧ (0 ≤ (l.getD j (0, 0)).2 ∧ (l.getD j (0, 0)).2 ≤ 4294967296)) ∧
    ∀ k, 1 ≤ k → k < l.length → (l.getD (k - 1) (0, 0)).1 < (l.getD k (0, 0)).1 ∧ (l.getD (k - 1) (0, 0)).2 ≤ (l.getD k (0, 0)).2 := by
  unfold tabE at h
  split at h
  · cases h
  rename_i h1
  split at h
  · cases h
  rename_i h2
  split at h
  · cases h
  rename_i h3
  split at h
  · cases h
  rename_i h4
  simp only [decide_eq_true_eq] at h1 h2
  simp only [Bool.or_eq_true, not_or, Bool.not_eq_true', Bool.not_eq_false, Bool.not_eq_true] at h3
  have ht : 0 ≤ tol ∧ tol ≤ 4294967296 := by simpa [dip_volume] using h3.1
  refine ⟨by omega, by omega, ht, fun j hj => ?_, fun k h5 h6 => ?_⟩
  · have := List.any_eq_false.1 h3.2 _ (getD_mem (d := (0, 0)) hj)
    rw [← badM2_eq] at this
    simp [badM2, -List.getD_eq_getElem?_getD] at this
    omega
  · have : badP (l.getD (k - 1) (0, 0)) (l.getD k (0, 0)) = false := by
      cases hb : badP (l.getD (k - 1) (0, 0)) (l.getD k (0, 0)) with
      | false => rfl
      | true => exact absurd (badPs_true h5 h6 hb) h4
    simp [badP, -List.getD_eq_getElem?_getD] at this
    omega
theorem ref13Check_any (A : Option Addr) (c : Nat) (l : List (Int × Int)) (tol : Int) (w : World) (hl : RdRow w A l.length 2 (elM l)) (hm : l.length ≤ 4611686018427387904) :
    Calls Try.prog 33 #[.agg #[.slice A l.length c, I tol]] w fun e w' => e = .returned (I (tabE l tol)) ∧ Below w.heap.size w w' := by
  refine enterPlain tfine Try.func33 rfl 89 Try.ntmps33 [.agg [.inp 1000 A l.length c, .k (I tol)]] [⟨1000, A, 2, l.length, elM l⟩] rfl rfl ⟨hl, trivial⟩ ⟨⟨.inl ⟨rfl, rfl, rfl⟩, trivial, trivial⟩, trivial⟩ ?_
  refine G.seqR tfine rfl trivial ?_
  refine G.seq (G.seqR tfine rfl trivial ?_)
  refine G.cond rfl (fun h1 => ?_) (fun h1 => ?_)
  · refine G.seqR tfine rfl trivial ?_
    refine G.ret (endK.ret rfl ?_)
    rw [tabE, if_pos h1]
  refine G.skip ?_
  refine G.seq (G.seqR tfine rfl trivial ?_)
  refine G.cond rfl (fun h2 => ?_) (fun h2 => ?_)
  · refine G.seqR tfine rfl trivial ?_
    refine G.ret (endK.ret rfl ?_)
    rw [tabE, if_neg (fne h1), if_pos h2]
  refine G.skip ?_
  have h1' := of_decide_eq_false h1
  have h2' := of_decide_eq_false h2
  refine G.seq (G.seqR tfine rfl trivial ?_)
  refine G.block (G.loop (fun k : Nat => St.of [(1, .v (.c (.ptr 1 0 0 0))), (3, .v (.c (.k (I k))))] [(1, .var 24 [.inp 1000 A l.length c, .k (I tol)]), (1000, .ro 2 l.length (elM l))])
    (fun k => k ≤ l.length ∧ ∀ j, j < k → badM (l.getD j (0, 0)) = false) (fun k => l.length - k) 0 ⟨by omega, fun j h5 => by omega⟩
    (St.le_of rfl ⟨⟨_, rfl, Blk.le_refl _⟩, ⟨_, rfl, Blk.le_refl _⟩, trivial⟩ ⟨rfl, rfl, trivial⟩) ?_)
  rintro k ⟨hk2, hpre⟩
  refine G.seq (G.seqR tfine rfl trivial ?_)
  refine G.cond rfl (fun h => ?_) (fun h => ?_)
  · have h := of_decide_eq_true h
    have hlt : k < l.length := by omega
    refine G.skip ?_
    refine G.seq (G.block ?_)
    refine G.seqR tfine rfl ?_ ?_
    · simp [AllP]; omega
    rw [Int.toNat_natCast]
    refine G.seqR tfine rfl ?_ ?_
    · simp [AllP, condB]
    refine G.cond (b := badM2 (l.getD k (0, 0))) rfl (fun h6 => ?_) (fun h6 => ?_)
    · refine G.seqR tfine rfl trivial ?_
      refine G.ret (endK.ret rfl ?_)
      rw [badM2_eq] at h6
      rw [tabE, if_neg (fne h1), if_neg (fne h2), if_pos (by rw [any_of_true hlt h6]; simp)]
    refine G.skip ?_
    refine G.reg tfine rfl trivial ?_
    rw [IntWalk.i64_in ((k : Int) + 1) (by omega)]
    refine ⟨k + 1, ⟨hlt, fun j h8 => ?_⟩, (by show l.length - (k + 1) < l.length - k; omega), St.le_of rfl ⟨⟨_, rfl, Blk.le_refl _⟩, ⟨_, rfl, Blk.le_refl _⟩, trivial⟩ ⟨rfl, rfl, trivial⟩⟩
    by_cases e : j = k
    · rw [e, ← badM2_eq]; exact h6
    · exact hpre j (by omega)
  have h := of_decide_eq_false h
  have hany : l.any badM = false := any_of_false (d := (0, 0)) fun j hj => hpre j (by omega)
  refine G.exit ?_
  refine G.seq (G.seqR tfine rfl ?_ ?_)
  · simp [AllP, condB]
  rw [vol_eq]
  refine G.cond rfl (fun h3 => ?_) (fun h3 => ?_)
  · refine G.seqR tfine rfl trivial ?_
    refine G.ret (endK.ret rfl ?_)
    rw [tabE, if_neg (fne h1), if_neg (fne h2), if_pos (by rw [h3]; rfl)]
  refine G.skip ?_
  have h3' : ¬ (!(dip_volume tol) || l.any badM) = true := by rw [h3, hany]; simp
  refine G.seq (G.seqR tfine rfl trivial ?_)
  refine G.block (G.loop (fun k : Nat => St.of [(1, .v (.c (.ptr 1 0 0 0))), (5, .v (.c (.k (I k))))] [(1, .var 24 [.inp 1000 A l.length c, .k (I tol)]), (1000, .ro 2 l.length (elM l))])
    (fun k => 1 ≤ k ∧ k ≤ l.length ∧ ∀ j, 1 ≤ j → j < k → badP (l.getD (j - 1) (0, 0)) (l.getD j (0, 0)) = false) (fun k => l.length - k) 1 ⟨Nat.le_refl _, by omega, fun j h4 h5 => by omega⟩
    (St.le_of rfl ⟨⟨_, rfl, Blk.le_refl _⟩, ⟨_, rfl, Blk.le_refl _⟩, trivial⟩ ⟨rfl, rfl, trivial⟩) ?_)
  rintro k ⟨hk1, hk2, hpre⟩
  refine G.seq (G.seqR tfine rfl trivial ?_)
  refine G.cond rfl (fun h => ?_) (fun h => ?_)
  rotate_left
  · have h := of_decide_eq_false h
    refine G.exit ?_
    refine G.seqR tfine rfl trivial ?_
    refine G.ret (endK.ret rfl ?_)
    rw [tabE, if_neg (fne h1), if_neg (fne h2), if_neg h3', badPs_false fun j h4 h5 => hpre j h4 (by omega)]
    rfl
  have h := of_decide_eq_true h
  have hlt : k < l.length := by omega
  have e1 : IntKind.i64.wrap ((k : Int) - 1) = (k : Int) - 1 := IntWalk.i64_in _ (by omega)
  have e2 : ((k : Int) - 1).toNat = k - 1 := by omega
  refine G.skip ?_
  refine G.seq (G.block ?_)
  refine G.seqD tfine hmix [0, 1, 0, 4, 15, 31, 63, 0, 128, 0, 896, 1920, 3968, 8191, 16383, 32767, 65535, 32767, 163839, 524287, 1048575, 2097151, 32767, 4227071, 32767, 29392895, 62947327, 130056191, 268435455, 536870911] [] rfl rfl rfl rfl ?_ ?_
  · rw [e1]
    simp [AllP, condB]
    omega
  rw [e1, e2, Int.toNat_natCast]
  refine G.cond (b := badP (l.getD (k - 1) (0, 0)) (l.getD k (0, 0))) rfl (fun h6 => ?_) (fun h6 => ?_)
  · refine G.seqR tfine rfl trivial ?_
    refine G.ret (endK.ret rfl ?_)
    rw [tabE, if_neg (fne h1), if_neg (fne h2), if_neg h3', badPs_true hk1 hlt h6]
    rfl
  refine G.skip ?_
  refine G.reg tfine rfl trivial ?_
  rw [IntWalk.i64_in ((k : Int) + 1) (by omega)]
  refine ⟨k + 1, ⟨by omega, hlt, fun j h7 h8 => ?_⟩, (by show l.length - (k + 1) < l.length - k; omega), St.le_of rfl ⟨⟨_, rfl, Blk.le_refl _⟩, ⟨_, rfl, Blk.le_refl _⟩, trivial⟩ ⟨rfl, rfl, trivial⟩⟩
  by_cases e : j = k
  · rw [e]; exact h6
  · exact hpre j h7 (by omega)
/-! ### The reading -/
theorem read1_any (A : Option Addr) (c : Nat) (l : List (Int × Int)) (tol h : Int) (w : World) (hl : RdRow w A l.length 2 (elM l)) (hz : tabE l tol = 0) (hh : h ≤ (l.getD (l.length - 1) (0, 0)).1) :
    Calls Try.prog 52 #[.agg #[.slice A l.length c, I tol], I h] w fun e w' => ∃ v, e = .returned v ∧ (∃ z, v = I z) ∧ Below w.heap.size w w' := by
  obtain ⟨q1, q2, q3, q4, q5⟩ := tabE_ok hz
  refine enterProp tfine (fun v => ∃ z, v = I z) Try.func52 rfl 48 Try.ntmps52 [.agg [.inp 1000 A l.length c, .k (I tol)], .c (.k (I h))] [⟨1000, A, 2, l.length, elM l⟩] rfl rfl ⟨hl, trivial⟩ ⟨⟨.inl ⟨rfl, rfl, rfl⟩, trivial, trivial⟩, trivial, trivial⟩ ?_
  refine G.seqR tfine rfl trivial ?_
  refine G.seqR tfine rfl trivial ?_
  refine G.seq (G.block (G.loop (fun k : Nat => St.of [(1, .v (.c (.k (I h)))), (2, .v (.c (.ptr 2 0 0 0))), (5, .v (.c (.k (I k))))] [(2, .var 24 [.inp 1000 A l.length c, .k (I tol)]), (1000, .ro 2 l.length (elM l))])
    (fun k => 1 ≤ k ∧ k < l.length) (fun k => l.length - k) 1 ⟨Nat.le_refl _, by omega⟩
    (St.le_of rfl ⟨⟨_, rfl, Blk.le_refl _⟩, ⟨_, rfl, Blk.le_refl _⟩, trivial⟩ ⟨rfl, rfl, rfl, trivial⟩) ?_))
  rintro k ⟨hk1, hk2⟩
  have e1 : IntKind.i64.wrap ((k : Int) - 1) = (k : Int) - 1 := IntWalk.i64_in _ (by omega)
  have e2 : ((k : Int) - 1).toNat = k - 1 := by omega
  refine G.seq (G.seqR tfine rfl ?_ ?_)
  · simp [AllP]; omega
  rw [Int.toNat_natCast]
  refine G.cond rfl (fun h6 => ?_) (fun h6 => ?_)
  · have h6 := of_decide_eq_true h6
    refine G.skip ?_
    refine G.block ?_
    refine G.reg tfine rfl trivial ?_
    rw [IntWalk.i64_in ((k : Int) + 1) (by omega)]
    have : k ≠ l.length - 1 := fun e => by rw [← e] at hh; omega
    exact ⟨k + 1, ⟨by omega, by omega⟩, (by show l.length - (k + 1) < l.length - k; omega), St.le_of rfl ⟨⟨_, rfl, Blk.le_refl _⟩, ⟨_, rfl, Blk.le_refl _⟩, trivial⟩ ⟨rfl, rfl, rfl, trivial⟩⟩
  refine G.exit ?_
  refine G.seqD tfine hmix [0, 1, 0, 4, 15, 31, 0, 64, 0, 448, 960, 0, 0, 6207, 16383] [(13, 6), (14, 7)] rfl rfl rfl rfl ?_ ?_
  · rw [e1]
    simp [AllP]
    omega
  rw [e1, e2, Int.toNat_natCast]
  have hd := q5 k hk1 hk2
  have m1 := (q4 k hk2).1
  have m2 := (q4 (k - 1) (by omega)).1
  refine G.seqD tfine hmix [0, 1, 0, 4, 0, 16, 60, 0, 0, 256, 896, 2044, 0, 4096, 0, 16384, 61440, 131068, 262143, 524287] [] rfl rfl rfl rfl ?_ ?_
  · simp only [AllP, and_true]
    rw [IntWalk.i64_in ((l.getD k (0, 0)).1 - (l.getD (k - 1) (0, 0)).1) (by omega)]
    omega
  exact G.ret (endKp.ret rfl ⟨_, rfl⟩)
def outR (l : List (Int × Int)) (h : Int) : Bool := (decide (h < (l.getD 0 (0, 0)).1)) || (decide (h > (l.getD (l.length - 1) (0, 0)).1))
def readE (l : List (Int × Int)) (tol h : Int) : Int := if (tabE l tol != 0) = true then 1 else if outR l h = true then 2 else 0
theorem read_any (A : Option Addr) (c : Nat) (l : List (Int × Int)) (tol h : Int) (w : World) (hl : RdRow w A l.length 2 (elM l)) (hm : l.length ≤ 4611686018427387904) :
    Calls Try.prog 32 #[.agg #[.slice A l.length c, I tol], I h] w fun e w' => ∃ v, e = .returned v ∧ (∃ z, v = .tuple #[I z, I (readE l tol h)]) ∧ Below w.heap.size w w' := by
  refine enterProp tfine (fun v => ∃ z, v = .tuple #[I z, I (readE l tol h)]) Try.func32 rfl 32 Try.ntmps32 [.agg [.inp 1000 A l.length c, .k (I tol)], .c (.k (I h))] [⟨1000, A, 2, l.length, elM l⟩] rfl rfl ⟨hl, trivial⟩ ⟨⟨.inl ⟨rfl, rfl, rfl⟩, trivial, trivial⟩, trivial, trivial⟩ ?_
  refine G.seqR tfine rfl trivial ?_
  refine G.seq (G.seqC tfine rfl trivial ?_)
  refine GO.callPlain (v := I (tabE l tol)) rfl rfl rfl rfl (fun args w => Try.call34 args w) (fun ρ w hs hok => dipCheck_any A c l tol w (hs.row (cap := c) rfl (hok _ List.mem_cons_self _ List.mem_cons_self)) hm) ?_
  refine GO.fin tfine rfl trivial ?_
  refine G.cond rfl (fun h1 => ?_) (fun h1 => ?_)
  · refine G.seqR tfine rfl trivial ?_
    refine G.ret (endKp.ret rfl ⟨0, ?_⟩)
    rw [readE, if_pos h1]
  refine G.skip ?_
  have hz : tabE l tol = 0 := by simpa using h1
  obtain ⟨q1, q2, q3, q4, q5⟩ := tabE_ok hz
  have e1 : IntKind.i64.wrap ((l.length : Int) - 1) = (l.length : Int) - 1 := IntWalk.i64_in _ (by omega)
  have e2 : ((l.length : Int) - 1).toNat = l.length - 1 := by omega
  refine G.seq (G.seqR tfine rfl ?_ ?_)
  · rw [e1]
    simp [AllP, condB]
    omega
  rw [e1, e2]
  refine G.cond (b := outR l h) rfl (fun h2 => ?_) (fun h2 => ?_)
  · refine G.seqR tfine rfl trivial ?_
    refine G.ret (endKp.ret rfl ⟨0, ?_⟩)
    rw [readE, if_neg (fne h1), if_pos h2]
  refine G.skip ?_
  have h2' : ¬ h < (l.getD 0 (0, 0)).1 ∧ ¬ h > (l.getD (l.length - 1) (0, 0)).1 := by simpa [outR] using h2
  refine G.seqC tfine rfl trivial ?_
  refine GO.callEx (fun v => ∃ z, v = I z) rfl rfl rfl rfl (fun args w => Try.call52 args w) (fun ρ w hs hok => read1_any A c l tol h w (hs.row (cap := c) rfl (hok _ List.mem_cons_self _ List.mem_cons_self)) hz (by omega)) ?_
  rintro _ ⟨z, rfl⟩
  refine GO.fin tfine rfl trivial ?_
  refine G.ret (endKp.ret rfl ⟨z, ?_⟩)
  rw [readE, if_neg (fne h1), if_neg (fne h2)]
end Go.Proofs.Ytiicemgngccicaa
/- Chapter 15: the bounds of the wet volume. -/
set_option linter.unusedVariables false
set_option linter.unusedSimpArgs false
set_option maxRecDepth 8000
set_option maxHeartbeats 1000000
namespace Go.Proofs.Ytiicemgngccicaa
open Go.Sx Go.RowKit
def idx (l : List (Int × Int)) (h : Int) : Nat := l.findIdx fun m => decide (m.1 ≥ h)
theorem idx_of {l : List (Int × Int)} {h : Int} {k : Nat} (hk : k < l.length) (h1 : h ≤ (l.getD k (0, 0)).1) (h2 : ∀ j, j < k → (l.getD j (0, 0)).1 < h) : idx l h = k := by
  have e : ∀ j (hj : j < l.length), l.getD j (0, 0) = l[j] := fun j hj => by rw [List.getD_eq_getElem?_getD, List.getElem?_eq_getElem hj]; rfl
  rw [e k hk] at h1
  have hlt : idx l h < l.length := List.findIdx_lt_length_of_exists ⟨l[k], List.getElem_mem hk, by simpa using h1⟩
  rcases Nat.lt_trichotomy (idx l h) k with h3 | h3 | h3
  · have h4 := h2 _ h3
    rw [e _ hlt] at h4
    have := List.findIdx_getElem (p := fun m : Int × Int => decide (m.1 ≥ h)) (w := hlt)
    have := of_decide_eq_true this
    simp only [idx] at h4
    omega
  · exact h3
  · have := List.not_of_lt_findIdx h3
    simp at this
    omega
def wet3 (l : List (Int × Int)) (tol h : Int) : Int × Int × Int := if (readE l tol h != 0) = true then (0, 0, readE l tol h) else ((if (l.getD (idx l h) (0, 0)).1 ≤ h then (l.getD (idx l h) (0, 0)).2 else (l.getD (idx l h - 1) (0, 0)).2), (l.getD (idx l h) (0, 0)).2 + tol, 0)
theorem readE_ok {l : List (Int × Int)} {tol h : Int} (hz : readE l tol h = 0) : tabE l tol = 0 ∧ (l.getD 0 (0, 0)).1 ≤ h ∧ h ≤ (l.getD (l.length - 1) (0, 0)).1 := by
  unfold readE at hz
  split at hz
  · cases hz
  rename_i h1
  split at hz
  · cases hz
  rename_i h2
  have h2' : ¬ h < (l.getD 0 (0, 0)).1 ∧ ¬ h > (l.getD (l.length - 1) (0, 0)).1 := by simpa [outR] using h2
  exact ⟨by simpa using h1, by omega, by omega⟩
def lowI (l : List (Int × Int)) (k : Nat) : Int := if k = 0 then 0 else (l.getD (k - 1) (0, 0)).2
theorem wet_any (A : Option Addr) (c : Nat) (l : List (Int × Int)) (tol h : Int) (w : World) (hl : RdRow w A l.length 2 (elM l)) (hm : l.length ≤ 4611686018427387904) :
    Calls Try.prog 11 #[.agg #[.slice A l.length c, I tol], I h] w fun e w' => e = .returned (.tuple #[.agg #[I (wet3 l tol h).1, I (wet3 l tol h).2.1], I (wet3 l tol h).2.2]) ∧ Below w.heap.size w w' := by
  refine enterPlain tfine Try.func11 rfl 47 Try.ntmps11 [.agg [.inp 1000 A l.length c, .k (I tol)], .c (.k (I h))] [⟨1000, A, 2, l.length, elM l⟩] rfl rfl ⟨hl, trivial⟩ ⟨⟨.inl ⟨rfl, rfl, rfl⟩, trivial, trivial⟩, trivial, trivial⟩ ?_
  refine G.seqR tfine rfl trivial ?_
  refine G.seq (G.seqC tfine rfl trivial ?_)
  refine GO.callEx (fun v => ∃ z, v = .tuple #[I z, I (readE l tol h)]) rfl rfl rfl rfl (fun args w => Try.call32 args w) (fun ρ w hs hok => read_any A c l tol h w (hs.row (cap := c) rfl (hok _ List.mem_cons_self _ List.mem_cons_self)) hm) ?_
  rintro _ ⟨z, rfl⟩
  refine GO.fin tfine rfl trivial ?_
  refine G.seqR tfine rfl trivial ?_
  refine G.cond rfl (fun h1 => ?_) (fun h1 => ?_)
  · refine G.seqR tfine rfl trivial ?_
    refine G.ret (endK.ret rfl ?_)
    rw [wet3, if_pos h1]
  refine G.skip ?_
  have hz : readE l tol h = 0 := by simpa using h1
  obtain ⟨ht, hlo, hhi⟩ := readE_ok hz
  obtain ⟨q1, q2, q3, q4, q5⟩ := tabE_ok ht
  refine G.seqR tfine rfl trivial ?_
  refine G.seq (G.seqR tfine rfl trivial ?_)
  refine G.block (G.loop (fun k : Nat => St.of [(1, .v (.c (.k (I h)))), (2, .v (.c (.ptr 2 0 0 0))), (4, .v (.c (.ptr 4 0 0 0))), (5, .v (.c (.k (I 0)))), (8, .v (.c (.ptr 8 0 0 0))), (22, .v (.c (.inp 1000 A l.length c))), (23, .v (.c (.k (I l.length)))), (24, .v (.c (.k (I k))))]
      [(2, .var 24 [.inp 1000 A l.length c, .k (I tol)]), (4, .var 30 [.k (I 0), .k (I 0)]), (8, .var 30 [.k (I (lowI l k)), .k (I 0)]), (1000, .ro 2 l.length (elM l))])
    (fun k => k ≤ l.length ∧ ∀ j, j < k → (l.getD j (0, 0)).1 < h) (fun k => l.length - k) 0 ⟨by omega, fun j h5 => by omega⟩
    (St.le_of rfl ⟨⟨_, rfl, Blk.le_refl _⟩, ⟨_, rfl, Blk.le_refl _⟩, ⟨_, rfl, Blk.le_refl _⟩, ⟨_, rfl, Blk.le_refl _⟩, trivial⟩ ⟨rfl, rfl, rfl, rfl, rfl, rfl, rfl, rfl, trivial⟩) ?_)
  rintro k ⟨hk2, hpre⟩
  refine G.seqR tfine rfl trivial ?_
  refine G.seq (G.cond rfl (fun h2 => ?_) (fun h2 => ?_))
  rotate_left
  · have h2 := of_decide_eq_false h2
    have := hpre (l.length - 1) (by omega)
    omega
  have h2 := of_decide_eq_true h2
  have hlt : k < l.length := by omega
  have hb := q4 k hlt
  refine G.skip ?_
  refine G.seq (G.block ?_)
  refine G.seqR tfine rfl ?_ ?_
  · simp [AllP]; omega
  rw [Int.toNat_natCast]
  refine G.seq (G.seqR tfine rfl trivial ?_)
  have fin : ¬ (l.getD k (0, 0)).1 < h → wet3 l tol h = ((if (l.getD k (0, 0)).1 ≤ h then (l.getD k (0, 0)).2 else (l.getD (k - 1) (0, 0)).2), (l.getD k (0, 0)).2 + tol, 0) := by
    intro h6
    rw [wet3, if_neg (fne h1), idx_of hlt (by omega) hpre]
  refine G.cond rfl (fun h3 => ?_) (fun h3 => ?_)
  · refine G.reg tfine rfl trivial ?_
    have h3 := of_decide_eq_true h3
    refine G.seqR tfine rfl trivial ?_
    refine G.cond rfl (fun h4 => ?_) (fun h4 => ?_)
    · have h4 := of_decide_eq_true h4
      refine G.seqR tfine rfl trivial ?_
      rw [IntWalk.i64_in ((l.getD k (0, 0)).2 + tol) (by omega)]
      refine G.exit ?_
      refine G.seqR tfine rfl trivial ?_
      refine G.ret (endK.ret rfl ?_)
      rw [fin (by omega), if_pos h3]
    · have h4 := of_decide_eq_false h4
      refine G.skip ?_
      refine G.reg tfine rfl trivial ?_
      rw [IntWalk.i64_in ((k : Int) + 1) (by omega)]
      refine ⟨k + 1, ⟨hlt, fun j h8 => ?_⟩, (by show l.length - (k + 1) < l.length - k; omega), St.le_of rfl ⟨⟨_, rfl, Blk.le_refl _⟩, ⟨_, rfl, Blk.le_refl _⟩, ⟨_, rfl, Blk.le_refl _⟩, ⟨_, rfl, Blk.le_refl _⟩, trivial⟩ ⟨rfl, rfl, rfl, rfl, rfl, rfl, rfl, rfl, trivial⟩⟩
      by_cases e : j = k
      · rw [e]; omega
      · exact hpre j (by omega)
  · refine G.skip ?_
    have h3 := of_decide_eq_false h3
    refine G.seqR tfine rfl trivial ?_
    refine G.cond rfl (fun h4 => ?_) (fun h4 => ?_)
    · refine G.seqR tfine rfl trivial ?_
      rw [IntWalk.i64_in ((l.getD k (0, 0)).2 + tol) (by omega)]
      refine G.exit ?_
      refine G.seqR tfine rfl trivial ?_
      refine G.ret (endK.ret rfl ?_)
      have hk0 : k ≠ 0 := fun e => by subst e; omega
      rw [fin (by omega), if_neg h3, lowI, if_neg hk0]
    · have h4 := of_decide_eq_false h4
      omega
theorem refWet_any (A : Option Addr) (c : Nat) (l : List (Int × Int)) (tol h : Int) (w : World) (hl : RdRow w A l.length 2 (elM l)) (hm : l.length ≤ 4611686018427387904) :
    Calls Try.prog 13 #[.agg #[.slice A l.length c, I tol], I h] w fun e w' => e = .returned (.tuple #[.agg #[I (wet3 l tol h).1, I (wet3 l tol h).2.1], I (wet3 l tol h).2.2]) ∧ Below w.heap.size w w' := by
  refine enterPlain tfine Try.func13 rfl 76 Try.ntmps13 [.agg [.inp 1000 A l.length c, .k (I tol)], .c (.k (I h))] [⟨1000, A, 2, l.length, elM l⟩] rfl rfl ⟨hl, trivial⟩ ⟨⟨.inl ⟨rfl, rfl, rfl⟩, trivial, trivial⟩, trivial, trivial⟩ ?_
  refine G.seqR tfine rfl trivial ?_
  refine G.seq (G.seqC tfine rfl trivial ?_)
  refine GO.callPlain (v := I (tabE l tol)) rfl rfl rfl rfl (fun args w => Try.call33 args w) (fun ρ w hs hok => ref13Check_any A c l tol w (hs.row (cap := c) rfl (hok _ List.mem_cons_self _ List.mem_cons_self)) hm) ?_
  refine GO.fin tfine rfl trivial ?_
  refine G.cond rfl (fun h1 => ?_) (fun h1 => ?_)
  · refine G.seqR tfine rfl trivial ?_
    refine G.ret (endK.ret rfl ?_)
    have : readE l tol h = 1 := by rw [readE, if_pos h1]
    rw [wet3, this]; rfl
  refine G.skip ?_
  have ht : tabE l tol = 0 := by simpa using h1
  obtain ⟨q1, q2, q3, q4, q5⟩ := tabE_ok ht
  have e1 : IntKind.i64.wrap ((l.length : Int) - 1) = (l.length : Int) - 1 := IntWalk.i64_in _ (by omega)
  have e2 : ((l.length : Int) - 1).toNat = l.length - 1 := by omega
  refine G.seq (G.seqR tfine rfl ?_ ?_)
  · rw [e1]
    simp [AllP, condB]
    omega
  rw [e1, e2]
  refine G.cond (b := outR l h) rfl (fun h2 => ?_) (fun h2 => ?_)
  · refine G.seqR tfine rfl trivial ?_
    refine G.ret (endK.ret rfl ?_)
    have : readE l tol h = 2 := by rw [readE, if_neg (fne h1), if_pos h2]
    rw [wet3, this]; rfl
  refine G.skip ?_
  have hz : readE l tol h = 0 := by rw [readE, if_neg (fne h1), if_neg (fne h2)]
  obtain ⟨_, hlo, hhi⟩ := readE_ok hz
  refine G.seqR tfine rfl trivial ?_
  refine G.seq (G.block (G.loop (fun k : Nat => St.of [(1, .v (.c (.k (I h)))), (2, .v (.c (.ptr 2 0 0 0))), (4, .v (.c (.ptr 4 0 0 0))), (5, .v (.c (.k (I 0)))), (6, .v (.c (.k (I k))))]
      [(2, .var 24 [.inp 1000 A l.length c, .k (I tol)]), (4, .var 30 [.k (I 0), .k (I 0)]), (1000, .ro 2 l.length (elM l))])
    (fun k => k < l.length ∧ ∀ j, j < k → (l.getD j (0, 0)).1 < h) (fun k => l.length - k) 0 ⟨by omega, fun j h5 => by omega⟩
    (St.le_of rfl ⟨⟨_, rfl, Blk.le_refl _⟩, ⟨_, rfl, Blk.le_refl _⟩, ⟨_, rfl, Blk.le_refl _⟩, trivial⟩ ⟨rfl, rfl, rfl, rfl, rfl, trivial⟩) ?_))
  rintro k ⟨hlt, hpre⟩
  have hb := q4 k hlt
  refine G.seq (G.seqR tfine rfl ?_ ?_)
  · simp [AllP]; omega
  rw [Int.toNat_natCast]
  refine G.cond rfl (fun h6 => ?_) (fun h6 => ?_)
  · have h6 := of_decide_eq_true h6
    refine G.skip ?_
    refine G.block ?_
    refine G.reg tfine rfl trivial ?_
    rw [IntWalk.i64_in ((k : Int) + 1) (by omega)]
    have : k ≠ l.length - 1 := fun e => by rw [← e] at hhi; omega
    refine ⟨k + 1, ⟨by omega, fun j h8 => ?_⟩, (by show l.length - (k + 1) < l.length - k; omega), St.le_of rfl ⟨⟨_, rfl, Blk.le_refl _⟩, ⟨_, rfl, Blk.le_refl _⟩, ⟨_, rfl, Blk.le_refl _⟩, trivial⟩ ⟨rfl, rfl, rfl, rfl, rfl, trivial⟩⟩
    by_cases e : j = k
    · rw [e]; omega
    · exact hpre j (by omega)
  have h6 := of_decide_eq_false h6
  have fin : wet3 l tol h = ((if (l.getD k (0, 0)).1 ≤ h then (l.getD k (0, 0)).2 else (l.getD (k - 1) (0, 0)).2), (l.getD k (0, 0)).2 + tol, 0) := by
    rw [wet3, if_neg (by rw [hz]; decide), idx_of hlt (by omega) hpre]
  refine G.exit ?_
  refine G.seqD tfine hmix [0, 1, 0, 7, 15, 31, 0, 64, 0, 448, 960, 1984, 0, 4096, 16320, 32767, 0, 131071] [(17, 7)] rfl rfl rfl rfl ?_ ?_
  · simp [AllP]
    omega
  rw [Int.toNat_natCast, IntWalk.i64_in ((l.getD k (0, 0)).2 + tol) (by omega)]
  refine G.seq (G.seqR tfine rfl ?_ ?_)
  · simp [AllP]
    omega
  rw [Int.toNat_natCast]
  refine G.cond rfl (fun h7 => ?_) (fun h7 => ?_)
  · have h7 := of_decide_eq_true h7
    have hk0 : k ≠ 0 := fun e => by subst e; omega
    have e3 : IntKind.i64.wrap ((k : Int) - 1) = (k : Int) - 1 := IntWalk.i64_in _ (by omega)
    have e4 : ((k : Int) - 1).toNat = k - 1 := by omega
    refine G.reg tfine rfl ?_ ?_
    · rw [e3]
      simp [AllP]
      omega
    rw [e3, e4]
    refine G.seqR tfine rfl trivial ?_
    refine G.ret (endK.ret rfl ?_)
    rw [fin, if_neg (by omega)]
  · have h7 := of_decide_eq_false h7
    refine G.skip ?_
    refine G.seqR tfine rfl trivial ?_
    refine G.ret (endK.ret rfl ?_)
    rw [fin, if_pos (by omega)]
end Go.Proofs.Ytiicemgngccicaa
/- Chapter 15: the report of a reading, of the program and of the reference. -/
set_option linter.unusedVariables false
set_option linter.unusedSimpArgs false
set_option maxRecDepth 8000
set_option maxHeartbeats 1000000
namespace Go.Proofs.Ytiicemgngccicaa
open Go.Sx Go.RowKit
def gauge_Report (l0_0 : List (Int × Int)) (x0_1 : Int) (x1_0 : Int) (x1_1 : Int) (x1_2 : Int) (x1_3 : Int) (x2 : Int) : Int × Int × Int × Int × Int × Int × Int × Int × Int := if ((tabE l0_0 x0_1) != (0 : Int)) = true then ((0 : Int), (0 : Int), (0 : Int), (0 : Int), (0 : Int), (0 : Int), (0 : Int), (0 : Int), (1 : Int)) else if (((((wet3 l0_0 x0_1 x1_1).2.2) != (0 : Int)) || ((gauge_Check x1_0 x1_1 x1_2 x1_3) != (0 : Int))) || (!(gauge_in x2 (0 : Int) (10000 : Int)))) = true then ((0 : Int), (0 : Int), (0 : Int), (0 : Int), (0 : Int), (0 : Int), (0 : Int), (0 : Int), (2 : Int)) else if (((btw3 ((wet3 l0_0 x0_1 x1_1).1) ((wet3 l0_0 x0_1 x1_1).2.1) x1_2 x1_2 x2).2.2) != (0 : Int)) = true then ((0 : Int), (0 : Int), (0 : Int), (0 : Int), (0 : Int), (0 : Int), (0 : Int), (0 : Int), (btw3 ((wet3 l0_0 x0_1 x1_1).1) ((wet3 l0_0 x0_1 x1_1).2.1) x1_2 x1_2 x2).2.2) else (x1_0, x1_1, x1_2, x1_3, (btw3 ((wet3 l0_0 x0_1 x1_1).1) ((wet3 l0_0 x0_1 x1_1).2.1) x1_2 x1_2 x2).1, (btw3 ((wet3 l0_0 x0_1 x1_1).1) ((wet3 l0_0 x0_1 x1_1).2.1) x1_2 x1_2 x2).2.1, (gauge_times ((btw3 ((wet3 l0_0 x0_1 x1_1).1) ((wet3 l0_0 x0_1 x1_1).2.1) x1_2 x1_2 x2).1) ((btw3 ((wet3 l0_0 x0_1 x1_1).1) ((wet3 l0_0 x0_1 x1_1).2.1) x1_2 x1_2 x2).2.1) x1_3).1, (gauge_times ((btw3 ((wet3 l0_0 x0_1 x1_1).1) ((wet3 l0_0 x0_1 x1_1).2.1) x1_2 x1_2 x2).1) ((btw3 ((wet3 l0_0 x0_1 x1_1).1) ((wet3 l0_0 x0_1 x1_1).2.1) x1_2 x1_2 x2).2.1) x1_3).2, (0 : Int))
theorem gauge_Report_any (A0_0 : Option Addr) (c0_0 : Nat) (l0_0 : List (Int × Int)) (x0_1 : Int) (x1_0 : Int) (x1_1 : Int) (x1_2 : Int) (x1_3 : Int) (x2 : Int) (w : World) (hl_l0_0 : RdRow w A0_0 l0_0.length 2 (elM l0_0)) (hm_l0_0 : l0_0.length ≤ 4611686018427387904) : Calls Try.prog 14 #[.agg #[.slice A0_0 l0_0.length c0_0, I x0_1], .agg #[I x1_0, I x1_1, I x1_2, I x1_3], I x2] w fun e w' => e = .returned (.tuple #[.agg #[I ((gauge_Report l0_0 x0_1 x1_0 x1_1 x1_2 x1_3 x2).1), I ((gauge_Report l0_0 x0_1 x1_0 x1_1 x1_2 x1_3 x2).2.1), I ((gauge_Report l0_0 x0_1 x1_0 x1_1 x1_2 x1_3 x2).2.2.1), I ((gauge_Report l0_0 x0_1 x1_0 x1_1 x1_2 x1_3 x2).2.2.2.1), I ((gauge_Report l0_0 x0_1 x1_0 x1_1 x1_2 x1_3 x2).2.2.2.2.1), I ((gauge_Report l0_0 x0_1 x1_0 x1_1 x1_2 x1_3 x2).2.2.2.2.2.1), I ((gauge_Report l0_0 x0_1 x1_0 x1_1 x1_2 x1_3 x2).2.2.2.2.2.2.1), I ((gauge_Report l0_0 x0_1 x1_0 x1_1 x1_2 x1_3 x2).2.2.2.2.2.2.2.1)], I ((gauge_Report l0_0 x0_1 x1_0 x1_1 x1_2 x1_3 x2).2.2.2.2.2.2.2.2)]) ∧ Below w.heap.size w w' := by
  refine enterPlain tfine Try.func14 rfl 57 Try.ntmps14 [.agg [.inp 1000 A0_0 l0_0.length c0_0, .k (I x0_1)], .agg [.k (I x1_0), .k (I x1_1), .k (I x1_2), .k (I x1_3)], .c (.k (I x2))] [⟨1000, A0_0, 2, l0_0.length, elM l0_0⟩] rfl rfl ⟨hl_l0_0, trivial⟩ ⟨⟨.inl ⟨rfl, rfl, rfl⟩, trivial, trivial⟩, ⟨trivial, trivial, trivial, trivial, trivial⟩, trivial, trivial⟩ ?_
  refine G.seqR tfine rfl ?_ ?_
  · first | trivial | (simp [AllP, condB]; done) | (simp only [AllP]; and_intros <;> first | trivial | decide | omega) | (simp [AllP, condB]; intros; and_intros <;> first | assumption | omega)
  refine G.seq ?_
  refine G.seqC tfine rfl ?_ ?_
  · first | trivial | (simp [AllP, condB]; done) | (simp only [AllP]; and_intros <;> first | trivial | decide | omega) | (simp [AllP, condB]; intros; and_intros <;> first | assumption | omega)
  refine GO.callPlain (v := I (tabE l0_0 x0_1))  rfl rfl rfl rfl (fun args w => Try.call34 args w) (fun ρ w hs hok => dipCheck_any A0_0 c0_0 l0_0 _ w (hs.row (cap := c0_0) rfl (hok _ List.mem_cons_self _ List.mem_cons_self)) hm_l0_0) ?_
  refine GO.fin tfine rfl ?_ ?_
  · first | trivial | (simp [AllP, condB]; done) | (simp only [AllP]; and_intros <;> first | trivial | decide | omega) | (simp [AllP, condB]; intros; and_intros <;> first | assumption | omega)
  refine G.cond (b := (tabE l0_0 x0_1) != (0 : Int)) rfl (fun h1 => ?_) (fun h1 => ?_)
  · refine G.seqR tfine rfl ?_ ?_
    · first | trivial | (simp [AllP, condB]; done) | (simp only [AllP]; and_intros <;> first | trivial | decide | omega) | (simp [AllP, condB]; intros; and_intros <;> first | assumption | omega)
    refine G.ret (endK.ret rfl ?_)
    first | (rw [gauge_Report, if_pos h1]; done) | (rw [gauge_Report, if_pos h1]; rfl)
  refine G.skip ?_
  refine G.seqC tfine rfl ?_ ?_
  · first | trivial | (simp [AllP, condB]; done) | (simp only [AllP]; and_intros <;> first | trivial | decide | omega) | (simp [AllP, condB]; intros; and_intros <;> first | assumption | omega)
  refine GO.callPlain (v := .tuple #[.agg #[I ((wet3 l0_0 x0_1 x1_1).1), I ((wet3 l0_0 x0_1 x1_1).2.1)], I ((wet3 l0_0 x0_1 x1_1).2.2)])  rfl rfl rfl rfl (fun args w => Try.call11 args w) (fun ρ w hs hok => wet_any A0_0 c0_0 l0_0 _ _ w (hs.row (cap := c0_0) rfl (hok _ List.mem_cons_self _ List.mem_cons_self)) hm_l0_0) ?_
  refine GO.fin tfine rfl ?_ ?_
  · first | trivial | (simp [AllP, condB]; done) | (simp only [AllP]; and_intros <;> first | trivial | decide | omega) | (simp [AllP, condB]; intros; and_intros <;> first | assumption | omega)
  refine G.seq ?_
  refine G.seqC tfine rfl ?_ ?_
  · first | trivial | (simp [AllP, condB]; done) | (simp only [AllP]; and_intros <;> first | trivial | decide | omega) | (simp [AllP, condB]; intros; and_intros <;> first | assumption | omega)
  refine GO.callGuard (I (gauge_Check x1_0 x1_1 x1_2 x1_3)) rfl rfl rfl (by first | exact trivial | exact ⟨id, trivial⟩ | exact ⟨id, id, trivial⟩ | exact ⟨id, id, id, trivial⟩ | exact ⟨id, id, id, id, trivial⟩) rfl rfl (fun args w => Try.call16 args w) rfl (fun _ m' hle ρ w hs hok => gauge_Check_any _ _ _ _ w) ?_
  refine GO.more tfine rfl ?_ ?_
  · first | trivial | (simp [AllP, condB]; done) | (simp only [AllP]; and_intros <;> first | trivial | decide | omega) | (simp [AllP, condB]; intros; and_intros <;> first | assumption | omega)
  refine GO.callGuard (.bool (gauge_in x2 (0 : Int) (10000 : Int))) rfl rfl rfl (by first | exact trivial | exact ⟨id, trivial⟩ | exact ⟨id, id, trivial⟩ | exact ⟨id, id, id, trivial⟩ | exact ⟨id, id, id, id, trivial⟩) rfl rfl (fun args w => Try.call35 args w) rfl (fun _ m' hle ρ w hs hok => gauge_in_any _ _ _ w) ?_
  refine GO.fin tfine rfl ?_ ?_
  · first | trivial | (simp [AllP, condB]; done) | (simp only [AllP]; and_intros <;> first | trivial | decide | omega) | (simp [AllP, condB]; intros; and_intros <;> first | assumption | omega)
  refine G.cond (b := ((((wet3 l0_0 x0_1 x1_1).2.2) != (0 : Int)) || ((gauge_Check x1_0 x1_1 x1_2 x1_3) != (0 : Int))) || (!(gauge_in x2 (0 : Int) (10000 : Int)))) rfl (fun h2 => ?_) (fun h2 => ?_)
  · refine G.seqR tfine rfl ?_ ?_
    · first | trivial | (simp [AllP, condB]; done) | (simp only [AllP]; and_intros <;> first | trivial | decide | omega) | (simp [AllP, condB]; intros; and_intros <;> first | assumption | omega)
    refine G.ret (endK.ret rfl ?_)
    first | (rw [gauge_Report, if_neg (fne h1), if_pos h2]; done) | (rw [gauge_Report, if_neg (fne h1), if_pos h2]; rfl)
  refine G.skip ?_
  refine G.seqC tfine rfl ?_ ?_
  · first | trivial | (simp [AllP, condB]; done) | (simp only [AllP]; and_intros <;> first | trivial | decide | omega) | (simp [AllP, condB]; intros; and_intros <;> first | assumption | omega)
  refine GO.callPlain (v := .tuple #[.agg #[I ((btw3 ((wet3 l0_0 x0_1 x1_1).1) ((wet3 l0_0 x0_1 x1_1).2.1) x1_2 x1_2 x2).1), I ((btw3 ((wet3 l0_0 x0_1 x1_1).1) ((wet3 l0_0 x0_1 x1_1).2.1) x1_2 x1_2 x2).2.1)], I ((btw3 ((wet3 l0_0 x0_1 x1_1).1) ((wet3 l0_0 x0_1 x1_1).2.1) x1_2 x1_2 x2).2.2)])  rfl rfl rfl rfl (fun args w => Try.call36 args w) (fun ρ w hs hok => between_any _ _ _ _ _ w) ?_
  refine GO.fin tfine rfl ?_ ?_
  · first | trivial | (simp [AllP, condB]; done) | (simp only [AllP]; and_intros <;> first | trivial | decide | omega) | (simp [AllP, condB]; intros; and_intros <;> first | assumption | omega)
  refine G.seq ?_
  refine G.seqR tfine rfl ?_ ?_
  · first | trivial | (simp [AllP, condB]; done) | (simp only [AllP]; and_intros <;> first | trivial | decide | omega) | (simp [AllP, condB]; intros; and_intros <;> first | assumption | omega)
  refine G.cond (b := ((btw3 ((wet3 l0_0 x0_1 x1_1).1) ((wet3 l0_0 x0_1 x1_1).2.1) x1_2 x1_2 x2).2.2) != (0 : Int)) rfl (fun h3 => ?_) (fun h3 => ?_)
  · refine G.seqR tfine rfl ?_ ?_
    · first | trivial | (simp [AllP, condB]; done) | (simp only [AllP]; and_intros <;> first | trivial | decide | omega) | (simp [AllP, condB]; intros; and_intros <;> first | assumption | omega)
    refine G.ret (endK.ret rfl ?_)
    first | (rw [gauge_Report, if_neg (fne h1), if_neg (fne h2), if_pos h3]; done) | (rw [gauge_Report, if_neg (fne h1), if_neg (fne h2), if_pos h3]; rfl)
  refine G.skip ?_
  refine G.seqDraw hmix [0, 0, 0, 0, 8, 28, 63, 127, 255] [(7, 6)] rfl rfl rfl ?_
  refine GD.more tfine 0 rfl rfl ?_ ?_
  · first | trivial | (simp [AllP, condB]; done) | (simp only [AllP]; and_intros <;> first | trivial | decide | omega) | (simp [AllP, condB]; intros; and_intros <;> first | assumption | omega)
  refine GD.call (v := .agg #[I ((gauge_times ((btw3 ((wet3 l0_0 x0_1 x1_1).1) ((wet3 l0_0 x0_1 x1_1).2.1) x1_2 x1_2 x2).1) ((btw3 ((wet3 l0_0 x0_1 x1_1).1) ((wet3 l0_0 x0_1 x1_1).2.1) x1_2 x1_2 x2).2.1) x1_3).1), I ((gauge_times ((btw3 ((wet3 l0_0 x0_1 x1_1).1) ((wet3 l0_0 x0_1 x1_1).2.1) x1_2 x1_2 x2).1) ((btw3 ((wet3 l0_0 x0_1 x1_1).1) ((wet3 l0_0 x0_1 x1_1).2.1) x1_2 x1_2 x2).2.1) x1_3).2)]) 5 rfl rfl rfl rfl rfl (fun args w => Try.call37 args w) (fun m hle ρ w hs hok => gauge_times_any _ _ _ w) ?_
  refine GD.fin tfine 6 rfl rfl ?_ ?_
  · first | trivial | (simp [AllP, condB]; done) | (simp only [AllP]; and_intros <;> first | trivial | decide | omega) | (simp [AllP, condB]; intros; and_intros <;> first | assumption | omega)
  refine G.ret (endK.ret rfl ?_)
  first | (rw [gauge_Report, if_neg (fne h1), if_neg (fne h2), if_neg (fne h3)]; done) | (rw [gauge_Report, if_neg (fne h1), if_neg (fne h2), if_neg (fne h3)]; rfl)
def spileref15_Report (l0_0 : List (Int × Int)) (x0_1 : Int) (x1_0 : Int) (x1_1 : Int) (x1_2 : Int) (x1_3 : Int) (x2 : Int) : Int × Int × Int × Int × Int × Int × Int × Int × Int := if ((tabE l0_0 x0_1) != (0 : Int)) = true then ((0 : Int), (0 : Int), (0 : Int), (0 : Int), (0 : Int), (0 : Int), (0 : Int), (0 : Int), (1 : Int)) else if (((!(spileref15_IsReading x1_0 x1_1 x1_2 x1_3)) || (((spileref05_Factor x2 x1_2).2) != (0 : Int))) || (((wet3 l0_0 x0_1 x1_1).2.2) != (0 : Int))) = true then ((0 : Int), (0 : Int), (0 : Int), (0 : Int), (0 : Int), (0 : Int), (0 : Int), (0 : Int), (2 : Int)) else (x1_0, x1_1, x1_2, x1_3, (btw3 ((wet3 l0_0 x0_1 x1_1).1) ((wet3 l0_0 x0_1 x1_1).2.1) x1_2 x1_2 x2).1, (btw3 ((wet3 l0_0 x0_1 x1_1).1) ((wet3 l0_0 x0_1 x1_1).2.1) x1_2 x1_2 x2).2.1, (spileref15_times ((btw3 ((wet3 l0_0 x0_1 x1_1).1) ((wet3 l0_0 x0_1 x1_1).2.1) x1_2 x1_2 x2).1) ((btw3 ((wet3 l0_0 x0_1 x1_1).1) ((wet3 l0_0 x0_1 x1_1).2.1) x1_2 x1_2 x2).2.1) x1_3).1, (spileref15_times ((btw3 ((wet3 l0_0 x0_1 x1_1).1) ((wet3 l0_0 x0_1 x1_1).2.1) x1_2 x1_2 x2).1) ((btw3 ((wet3 l0_0 x0_1 x1_1).1) ((wet3 l0_0 x0_1 x1_1).2.1) x1_2 x1_2 x2).2.1) x1_3).2, (0 : Int))
theorem spileref15_Report_any (A0_0 : Option Addr) (c0_0 : Nat) (l0_0 : List (Int × Int)) (x0_1 : Int) (x1_0 : Int) (x1_1 : Int) (x1_2 : Int) (x1_3 : Int) (x2 : Int) (w : World) (hl_l0_0 : RdRow w A0_0 l0_0.length 2 (elM l0_0)) (hm_l0_0 : l0_0.length ≤ 4611686018427387904) : Calls Try.prog 15 #[.agg #[.slice A0_0 l0_0.length c0_0, I x0_1], .agg #[I x1_0, I x1_1, I x1_2, I x1_3], I x2] w fun e w' => e = .returned (.tuple #[.agg #[I ((spileref15_Report l0_0 x0_1 x1_0 x1_1 x1_2 x1_3 x2).1), I ((spileref15_Report l0_0 x0_1 x1_0 x1_1 x1_2 x1_3 x2).2.1), I ((spileref15_Report l0_0 x0_1 x1_0 x1_1 x1_2 x1_3 x2).2.2.1), I ((spileref15_Report l0_0 x0_1 x1_0 x1_1 x1_2 x1_3 x2).2.2.2.1), I ((spileref15_Report l0_0 x0_1 x1_0 x1_1 x1_2 x1_3 x2).2.2.2.2.1), I ((spileref15_Report l0_0 x0_1 x1_0 x1_1 x1_2 x1_3 x2).2.2.2.2.2.1), I ((spileref15_Report l0_0 x0_1 x1_0 x1_1 x1_2 x1_3 x2).2.2.2.2.2.2.1), I ((spileref15_Report l0_0 x0_1 x1_0 x1_1 x1_2 x1_3 x2).2.2.2.2.2.2.2.1)], I ((spileref15_Report l0_0 x0_1 x1_0 x1_1 x1_2 x1_3 x2).2.2.2.2.2.2.2.2)]) ∧ Below w.heap.size w w' := by
  refine enterPlain tfine Try.func15 rfl 62 Try.ntmps15 [.agg [.inp 1000 A0_0 l0_0.length c0_0, .k (I x0_1)], .agg [.k (I x1_0), .k (I x1_1), .k (I x1_2), .k (I x1_3)], .c (.k (I x2))] [⟨1000, A0_0, 2, l0_0.length, elM l0_0⟩] rfl rfl ⟨hl_l0_0, trivial⟩ ⟨⟨.inl ⟨rfl, rfl, rfl⟩, trivial, trivial⟩, ⟨trivial, trivial, trivial, trivial, trivial⟩, trivial, trivial⟩ ?_
  refine G.seqR tfine rfl ?_ ?_
  · first | trivial | (simp [AllP, condB]; done) | (simp only [AllP]; and_intros <;> first | trivial | decide | omega) | (simp [AllP, condB]; intros; and_intros <;> first | assumption | omega)
  refine G.seq ?_
  refine G.seqC tfine rfl ?_ ?_
  · first | trivial | (simp [AllP, condB]; done) | (simp only [AllP]; and_intros <;> first | trivial | decide | omega) | (simp [AllP, condB]; intros; and_intros <;> first | assumption | omega)
  refine GO.callPlain (v := I (tabE l0_0 x0_1))  rfl rfl rfl rfl (fun args w => Try.call33 args w) (fun ρ w hs hok => ref13Check_any A0_0 c0_0 l0_0 _ w (hs.row (cap := c0_0) rfl (hok _ List.mem_cons_self _ List.mem_cons_self)) hm_l0_0) ?_
  refine GO.fin tfine rfl ?_ ?_
  · first | trivial | (simp [AllP, condB]; done) | (simp only [AllP]; and_intros <;> first | trivial | decide | omega) | (simp [AllP, condB]; intros; and_intros <;> first | assumption | omega)
  refine G.cond (b := (tabE l0_0 x0_1) != (0 : Int)) rfl (fun h1 => ?_) (fun h1 => ?_)
  · refine G.seqR tfine rfl ?_ ?_
    · first | trivial | (simp [AllP, condB]; done) | (simp only [AllP]; and_intros <;> first | trivial | decide | omega) | (simp [AllP, condB]; intros; and_intros <;> first | assumption | omega)
    refine G.ret (endK.ret rfl ?_)
    first | (rw [spileref15_Report, if_pos h1]; done) | (rw [spileref15_Report, if_pos h1]; rfl)
  refine G.skip ?_
  refine G.seqC tfine rfl ?_ ?_
  · first | trivial | (simp [AllP, condB]; done) | (simp only [AllP]; and_intros <;> first | trivial | decide | omega) | (simp [AllP, condB]; intros; and_intros <;> first | assumption | omega)
  refine GO.callPlain (v := .tuple #[.agg #[I ((wet3 l0_0 x0_1 x1_1).1), I ((wet3 l0_0 x0_1 x1_1).2.1)], I ((wet3 l0_0 x0_1 x1_1).2.2)])  rfl rfl rfl rfl (fun args w => Try.call13 args w) (fun ρ w hs hok => refWet_any A0_0 c0_0 l0_0 _ _ w (hs.row (cap := c0_0) rfl (hok _ List.mem_cons_self _ List.mem_cons_self)) hm_l0_0) ?_
  refine GO.fin tfine rfl ?_ ?_
  · first | trivial | (simp [AllP, condB]; done) | (simp only [AllP]; and_intros <;> first | trivial | decide | omega) | (simp [AllP, condB]; intros; and_intros <;> first | assumption | omega)
  refine G.seq ?_
  refine G.seqC tfine rfl ?_ ?_
  · first | trivial | (simp [AllP, condB]; done) | (simp only [AllP]; and_intros <;> first | trivial | decide | omega) | (simp [AllP, condB]; intros; and_intros <;> first | assumption | omega)
  refine GO.callPlain (v := .tuple #[I ((spileref05_Factor x2 x1_2).1), I ((spileref05_Factor x2 x1_2).2)])  rfl rfl rfl rfl (fun args w => Try.call38 args w) (fun ρ w hs hok => spileref05_Factor_any _ _ w) ?_
  refine GO.fin tfine rfl ?_ ?_
  · first | trivial | (simp [AllP, condB]; done) | (simp only [AllP]; and_intros <;> first | trivial | decide | omega) | (simp [AllP, condB]; intros; and_intros <;> first | assumption | omega)
  refine G.seqC tfine rfl ?_ ?_
  · first | trivial | (simp [AllP, condB]; done) | (simp only [AllP]; and_intros <;> first | trivial | decide | omega) | (simp [AllP, condB]; intros; and_intros <;> first | assumption | omega)
  refine GO.callPlain (v := .bool (spileref15_IsReading x1_0 x1_1 x1_2 x1_3))  rfl rfl rfl rfl (fun args w => Try.call39 args w) (fun ρ w hs hok => spileref15_IsReading_any _ _ _ _ w) ?_
  refine GO.fin tfine rfl ?_ ?_
  · first | trivial | (simp [AllP, condB]; done) | (simp only [AllP]; and_intros <;> first | trivial | decide | omega) | (simp [AllP, condB]; intros; and_intros <;> first | assumption | omega)
  refine G.cond (b := ((!(spileref15_IsReading x1_0 x1_1 x1_2 x1_3)) || (((spileref05_Factor x2 x1_2).2) != (0 : Int))) || (((wet3 l0_0 x0_1 x1_1).2.2) != (0 : Int))) rfl (fun h2 => ?_) (fun h2 => ?_)
  · refine G.seqR tfine rfl ?_ ?_
    · first | trivial | (simp [AllP, condB]; done) | (simp only [AllP]; and_intros <;> first | trivial | decide | omega) | (simp [AllP, condB]; intros; and_intros <;> first | assumption | omega)
    refine G.ret (endK.ret rfl ?_)
    first | (rw [spileref15_Report, if_neg (fne h1), if_pos h2]; done) | (rw [spileref15_Report, if_neg (fne h1), if_pos h2]; rfl)
  refine G.skip ?_
  refine G.seqC tfine rfl ?_ ?_
  · first | trivial | (simp [AllP, condB]; done) | (simp only [AllP]; and_intros <;> first | trivial | decide | omega) | (simp [AllP, condB]; intros; and_intros <;> first | assumption | omega)
  refine GO.callPlain (v := .tuple #[.agg #[I ((btw3 ((wet3 l0_0 x0_1 x1_1).1) ((wet3 l0_0 x0_1 x1_1).2.1) x1_2 x1_2 x2).1), I ((btw3 ((wet3 l0_0 x0_1 x1_1).1) ((wet3 l0_0 x0_1 x1_1).2.1) x1_2 x1_2 x2).2.1)], I ((btw3 ((wet3 l0_0 x0_1 x1_1).1) ((wet3 l0_0 x0_1 x1_1).2.1) x1_2 x1_2 x2).2.2)])  rfl rfl rfl rfl (fun args w => Try.call40 args w) (fun ρ w hs hok => refBetween_any _ _ _ _ _ w) ?_
  refine GO.fin tfine rfl ?_ ?_
  · first | trivial | (simp [AllP, condB]; done) | (simp only [AllP]; and_intros <;> first | trivial | decide | omega) | (simp [AllP, condB]; intros; and_intros <;> first | assumption | omega)
  refine G.seqDraw hmix [0, 0, 0, 0, 8, 28, 63, 127, 255] [(7, 6)] rfl rfl rfl ?_
  refine GD.more tfine 0 rfl rfl ?_ ?_
  · first | trivial | (simp [AllP, condB]; done) | (simp only [AllP]; and_intros <;> first | trivial | decide | omega) | (simp [AllP, condB]; intros; and_intros <;> first | assumption | omega)
  refine GD.call (v := .agg #[I ((spileref15_times ((btw3 ((wet3 l0_0 x0_1 x1_1).1) ((wet3 l0_0 x0_1 x1_1).2.1) x1_2 x1_2 x2).1) ((btw3 ((wet3 l0_0 x0_1 x1_1).1) ((wet3 l0_0 x0_1 x1_1).2.1) x1_2 x1_2 x2).2.1) x1_3).1), I ((spileref15_times ((btw3 ((wet3 l0_0 x0_1 x1_1).1) ((wet3 l0_0 x0_1 x1_1).2.1) x1_2 x1_2 x2).1) ((btw3 ((wet3 l0_0 x0_1 x1_1).1) ((wet3 l0_0 x0_1 x1_1).2.1) x1_2 x1_2 x2).2.1) x1_3).2)]) 5 rfl rfl rfl rfl rfl (fun args w => Try.call41 args w) (fun m hle ρ w hs hok => spileref15_times_any _ _ _ w) ?_
  refine GD.fin tfine 6 rfl rfl ?_ ?_
  · first | trivial | (simp [AllP, condB]; done) | (simp only [AllP]; and_intros <;> first | trivial | decide | omega) | (simp [AllP, condB]; intros; and_intros <;> first | assumption | omega)
  refine G.ret (endK.ret rfl ?_)
  first | (rw [spileref15_Report, if_neg (fne h1), if_neg (fne h2)]; done) | (rw [spileref15_Report, if_neg (fne h1), if_neg (fne h2)]; rfl)
def spileref13_Few (l0_0 : List (Int × Int)) (x0_1 : Int) : Bool := (decide ((l0_0.length : Int) ≤ (129 : Int)))
theorem spileref13_Few_any (A0_0 : Option Addr) (c0_0 : Nat) (l0_0 : List (Int × Int)) (x0_1 : Int) (w : World) (hl_l0_0 : RdRow w A0_0 l0_0.length 2 (elM l0_0)) (hm_l0_0 : l0_0.length ≤ 4611686018427387904) : Calls Try.prog 10 #[.agg #[.slice A0_0 l0_0.length c0_0, I x0_1]] w fun e w' => e = .returned (.bool (spileref13_Few l0_0 x0_1)) ∧ Below w.heap.size w w' := by
  refine enterPlain tfine Try.func10 rfl 7 Try.ntmps10 [.agg [.inp 1000 A0_0 l0_0.length c0_0, .k (I x0_1)]] [⟨1000, A0_0, 2, l0_0.length, elM l0_0⟩] rfl rfl ⟨hl_l0_0, trivial⟩ ⟨⟨.inl ⟨rfl, rfl, rfl⟩, trivial, trivial⟩, trivial⟩ ?_
  refine G.seqR tfine rfl ?_ ?_
  · first | trivial | (simp [AllP, condB]; done) | (simp only [AllP]; and_intros <;> first | trivial | decide | omega) | (simp [AllP, condB]; intros; and_intros <;> first | assumption | omega)
  refine G.seqR tfine rfl ?_ ?_
  · first | trivial | (simp [AllP, condB]; done) | (simp only [AllP]; and_intros <;> first | trivial | decide | omega) | (simp [AllP, condB]; intros; and_intros <;> first | assumption | omega)
  refine G.ret (endK.ret rfl ?_)
  first | (rw [spileref13_Few]; done) | (rw [spileref13_Few]; rfl)
def gauge_Together_2 (x0_0 : Int) (x0_1 : Int) (x1_0 : Int) (x1_1 : Int) : Int × Int := (if x1_0 > x0_0 then x1_0 else x0_0, if x1_1 < x0_1 then x1_1 else x0_1)
theorem gauge_Together_2_any (x0_0 : Int) (x0_1 : Int) (x1_0 : Int) (x1_1 : Int) (w : World) : Calls Try.prog 44 #[.agg #[I x0_0, I x0_1], .agg #[I x1_0, I x1_1]] w fun e w' => e = .returned (.agg #[I ((gauge_Together_2 x0_0 x0_1 x1_0 x1_1).1), I ((gauge_Together_2 x0_0 x0_1 x1_0 x1_1).2)]) ∧ Below w.heap.size w w' := by
  refine enterPlain tfine Try.func44 rfl 16 Try.ntmps44 [.agg [.k (I x0_0), .k (I x0_1)], .agg [.k (I x1_0), .k (I x1_1)]] [] rfl rfl trivial ⟨⟨trivial, trivial, trivial⟩, ⟨trivial, trivial, trivial⟩, trivial⟩ ?_
  refine G.seqR tfine rfl ?_ ?_
  · first | trivial | (simp [AllP, condB]; done) | (simp only [AllP]; and_intros <;> first | trivial | decide | omega) | (simp [AllP, condB]; intros; and_intros <;> first | assumption | omega)
  refine G.seqR tfine rfl ?_ ?_
  · first | trivial | (simp [AllP, condB]; done) | (simp only [AllP]; and_intros <;> first | trivial | decide | omega) | (simp [AllP, condB]; intros; and_intros <;> first | assumption | omega)
  refine G.ret (endK.ret rfl ?_)
  first | (rw [gauge_Together_2]; done) | (rw [gauge_Together_2]; rfl)
def gauge_Total_1 (x0_0 : Int) (x0_1 : Int) (x1_0 : Int) (x1_1 : Int) : Int × Int := (IntKind.i64.wrap (x0_0 + x1_0), IntKind.i64.wrap (x0_1 + x1_1))
theorem gauge_Total_1_any (x0_0 : Int) (x0_1 : Int) (x1_0 : Int) (x1_1 : Int) (w : World) : Calls Try.prog 48 #[.agg #[I x0_0, I x0_1], .agg #[I x1_0, I x1_1]] w fun e w' => e = .returned (.agg #[I ((gauge_Total_1 x0_0 x0_1 x1_0 x1_1).1), I ((gauge_Total_1 x0_0 x0_1 x1_0 x1_1).2)]) ∧ Below w.heap.size w w' := by
  refine enterPlain tfine Try.func48 rfl 16 Try.ntmps48 [.agg [.k (I x0_0), .k (I x0_1)], .agg [.k (I x1_0), .k (I x1_1)]] [] rfl rfl trivial ⟨⟨trivial, trivial, trivial⟩, ⟨trivial, trivial, trivial⟩, trivial⟩ ?_
  refine G.seqR tfine rfl ?_ ?_
  · first | trivial | (simp [AllP, condB]; done) | (simp only [AllP]; and_intros <;> first | trivial | decide | omega) | (simp [AllP, condB]; intros; and_intros <;> first | assumption | omega)
  refine G.seqR tfine rfl ?_ ?_
  · first | trivial | (simp [AllP, condB]; done) | (simp only [AllP]; and_intros <;> first | trivial | decide | omega) | (simp [AllP, condB]; intros; and_intros <;> first | assumption | omega)
  refine G.ret (endK.ret rfl ?_)
  first | (rw [gauge_Total_1]; done) | (rw [gauge_Total_1]; rfl)
end Go.Proofs.Ytiicemgngccicaa
/- Chapter 15: rows of reports. -/
set_option linter.unusedVariables false
set_option linter.unusedSimpArgs false
set_option maxRecDepth 8000
set_option maxHeartbeats 1000000
namespace Go.Proofs.Ytiicemgngccicaa
open Go.Sx Go.RowKit
structure Rep where
  d : Int
  p : Int
  h : Int
  s : Int
  vl : Int
  vh : Int
  al : Int
  ah : Int
def rep0 : Rep := ⟨0, 0, 0, 0, 0, 0, 0, 0⟩
def Rep.cs (r : Rep) : List Value := [I r.d, I r.p, I r.h, I r.s, I r.vl, I r.vh, I r.al, I r.ah]
def Rep.v (r : Rep) : Value := .agg #[I r.d, I r.p, I r.h, I r.s, I r.vl, I r.vh, I r.al, I r.ah]
def elR (l : List Rep) (i : Nat) : List Value := [I (l.getD i rep0).d, I (l.getD i rep0).p, I (l.getD i rep0).h, I (l.getD i rep0).s, I (l.getD i rep0).vl, I (l.getD i rep0).vh, I (l.getD i rep0).al, I (l.getD i rep0).ah]
theorem Below.join {w w1 w2 : World} (h : Below w.heap.size w w1) (h2 : Below w1.heap.size w1 w2) : Below w.heap.size w w2 := (Fr.below (Fr.of_below h) h2).toBelow
theorem indexFuncR_any (f : FuncId) (q : Rep → Bool) (p : Value) (hcf : ∀ args w, (callFunc f args).run Try.prog w = .ok (.enter f args) w)
    (A : Option Addr) (c : Nat) (l : List Rep) (w : World) (hf : ∀ w1, Below w.heap.size w w1 → ∀ v ∈ l, Calls Try.prog f #[Rep.v v, p] w1 fun e w' => e = .returned (.bool (q v)) ∧ Below w1.heap.size w1 w') (hl : RdRow w A l.length 8 (elR l)) (hm : l.length ≤ 4611686018427387904) :
    Calls Try.prog 51 #[.slice A l.length c, .func (.func f) #[] #[p]] w fun e w' => e = .returned (I (firstI (fun k => q (l.getD k rep0)) 0 l.length)) ∧ Below w.heap.size w w' := by
  refine enterPlain tfine Try.func51 rfl 19 Try.ntmps51 [.c (.inp 1000 A l.length c), .c (.k (.func (.func f) #[] #[p]))] [⟨1000, A, 8, l.length, elR l⟩] rfl rfl ⟨hl, trivial⟩ ⟨.inl ⟨rfl, rfl, rfl⟩, trivial, trivial⟩ ?_
  refine G.seqR tfine rfl trivial ?_
  refine G.seq (G.seqR tfine rfl trivial ?_)
  refine G.block (G.loop (fun k : Nat => St.of [(0, .v (.c (.inp 1000 A l.length c))), (1, .v (.c (.k (.func (.func f) #[] #[p])))), (7, .v (.c (.k (I l.length)))), (8, .v (.c (.k (I k))))] [(1000, .ro 8 l.length (elR l))])
    (fun k => k ≤ l.length ∧ firstI (fun k => q (l.getD k rep0)) 0 l.length = firstI (fun k => q (l.getD k rep0)) k (l.length - k)) (fun k => l.length - k) 0 ⟨by omega, by simp⟩ (St.le_of rfl ⟨⟨_, rfl, Blk.le_refl _⟩, trivial⟩ ⟨rfl, rfl, rfl, rfl, trivial⟩) ?_)
  rintro k ⟨hk, hfi⟩
  refine G.seqR tfine rfl trivial ?_
  refine G.seq (G.cond rfl (fun h => ?_) (fun h => ?_))
  rotate_left
  · have h := of_decide_eq_false h
    have : k = l.length := by omega
    subst this
    refine G.exit ?_
    refine G.seqR tfine rfl trivial ?_
    refine G.ret (endK.ret rfl ?_)
    rw [hfi]
    simp [firstI]
  have h := of_decide_eq_true h
  have hlt : k < l.length := by omega
  refine G.skip ?_
  refine G.seq (G.block ?_)
  refine G.seqR tfine rfl trivial ?_
  refine G.seqC tfine rfl ⟨by simpa using hlt, by omega, by omega, trivial⟩ ?_
  rw [Int.toNat_natCast]
  refine GO.callPlain rfl rfl rfl rfl hcf (fun ρ w1 hm _ => hf w1 hm.fr.toBelow (l.getD k rep0) (getD_mem hlt)) (GO.nil ?_)
  have hs : l.length - k = (l.length - (k + 1)) + 1 := by omega
  rw [hs, firstI] at hfi
  refine G.cond rfl (fun h2 => ?_) (fun h2 => ?_)
  · refine G.seqR tfine rfl trivial ?_
    refine G.ret (endK.ret rfl ?_)
    rw [hfi, if_pos h2]
  · refine G.skip ?_
    refine G.reg tfine rfl trivial ?_
    rw [IntWalk.i64_in _ (by omega)]
    rw [if_neg (by simpa using h2)] at hfi
    exact ⟨k + 1, ⟨by omega, hfi⟩, (by show l.length - (k + 1) < l.length - k; omega), St.le_of rfl ⟨⟨_, rfl, Blk.le_refl _⟩, trivial⟩ ⟨rfl, rfl, rfl, by simp [up, I], trivial⟩⟩
theorem containsFuncR_any (f : FuncId) (q : Rep → Bool) (p : Value) (hcf : ∀ args w, (callFunc f args).run Try.prog w = .ok (.enter f args) w)
    (A : Option Addr) (c : Nat) (l : List Rep) (w : World) (hf : ∀ w1, Below w.heap.size w w1 → ∀ v ∈ l, Calls Try.prog f #[Rep.v v, p] w1 fun e w' => e = .returned (.bool (q v)) ∧ Below w1.heap.size w1 w') (hl : RdRow w A l.length 8 (elR l)) (hm : l.length ≤ 4611686018427387904) :
    Calls Try.prog 25 #[.slice A l.length c, .func (.func f) #[] #[p]] w fun e w' => e = .returned (.bool (decide (firstI (fun k => q (l.getD k rep0)) 0 l.length ≥ 0))) ∧ Below w.heap.size w w' := by
  refine enterPlain tfine Try.func25 rfl 9 Try.ntmps25 [.c (.inp 1000 A l.length c), .c (.k (.func (.func f) #[] #[p]))] [⟨1000, A, 8, l.length, elR l⟩] rfl rfl ⟨hl, trivial⟩ ⟨.inl ⟨rfl, rfl, rfl⟩, trivial, trivial⟩ ?_
  refine G.seqR tfine rfl trivial ?_
  refine G.seqC tfine rfl trivial ?_
  refine GO.callPlain rfl rfl rfl rfl (fun args w => Try.call51 args w) (fun ρ w1 hs hok => indexFuncR_any f q p hcf A c l w1 (fun w2 h2 v hv => hf w2 (Below.join hs.fr.toBelow h2) v hv) (hs.row rfl (hok _ List.mem_cons_self)) hm) ?_
  refine GO.fin tfine rfl trivial ?_
  exact G.ret (endK.ret rfl rfl)
def okR (r : Rep) : Bool := gauge_Right r.d r.p r.h r.s r.vl r.vh r.al r.ah
theorem right_any (r : Rep) (w : World) : Calls Try.prog 18 #[Rep.v r] w fun e w' => e = .returned (.bool (okR r)) ∧ Below w.heap.size w w' := gauge_Right_any r.d r.p r.h r.s r.vl r.vh r.al r.ah w
theorem rights1_any (b : Bool) (r : Rep) (w : World) : Calls Try.prog 66 #[.bool b, Rep.v r] w fun e w' => e = .returned (.bool (b && okR r)) ∧ Below w.heap.size w w' := by
  refine enterPlain tfine Try.func66 rfl 10 Try.ntmps66 [.c (.k (.bool b)), .agg [.k (I r.d), .k (I r.p), .k (I r.h), .k (I r.s), .k (I r.vl), .k (I r.vh), .k (I r.al), .k (I r.ah)]] [] rfl rfl trivial ⟨trivial, ⟨trivial, trivial, trivial, trivial, trivial, trivial, trivial, trivial, trivial⟩, trivial⟩ ?_
  refine G.seqR tfine rfl trivial ?_
  refine G.seqC tfine rfl trivial ?_
  refine GO.callGuard (.bool (okR r)) rfl rfl rfl (by first | exact trivial | exact ⟨id, trivial⟩) rfl rfl (fun args w => Try.call18 args w) rfl (fun _ m' hle ρ w hs hok => right_any r w) ?_
  refine GO.fin tfine rfl ?_ ?_
  · simp [AllP, condB]
  exact G.ret (endK.ret rfl rfl)
theorem take_all {α : Type} (q : α → Bool) (l : List α) (k : Nat) (d : α) (h : k < l.length) : (l.take (k + 1)).all q = ((l.take k).all q && q (l.getD k d)) := by
  rw [List.take_succ_eq_append_getElem h, List.all_append, List.getD_eq_getElem?_getD, List.getElem?_eq_getElem h]
  simp
theorem foldB_any (A : Option Addr) (c : Nat) (l : List Rep) (w : World) (hl : RdRow w A l.length 8 (elR l)) (hm : l.length ≤ 4611686018427387904) :
    Calls Try.prog 65 #[.slice A l.length c, .bool true, .func (.func 66) #[] #[]] w fun e w' => e = .returned (.bool (l.all okR)) ∧ Below w.heap.size w w' := by
  refine enterPlain tfine Try.func65 rfl 21 Try.ntmps65 [.c (.inp 1000 A l.length c), .c (.k (.bool true)), .c (.k (.func (.func 66) #[] #[]))] [⟨1000, A, 8, l.length, elR l⟩] rfl rfl ⟨hl, trivial⟩ ⟨.inl ⟨rfl, rfl, rfl⟩, trivial, trivial, trivial⟩ ?_
  refine G.seqR tfine rfl trivial ?_
  refine G.seq (G.seqR tfine rfl trivial ?_)
  refine G.block (G.loop (fun k : Nat => St.of [(1, .v (.c (.k (.bool ((l.take k).all okR))))), (2, .v (.c (.k (.func (.func 66) #[] #[])))), (9, .v (.c (.inp 1000 A l.length c))), (10, .v (.c (.k (I l.length)))), (11, .v (.c (.k (I k))))] [(1000, .ro 8 l.length (elR l))])
    (fun k => k ≤ l.length) (fun k => l.length - k) 0 (by omega) (St.le_of rfl ⟨⟨_, rfl, Blk.le_refl _⟩, trivial⟩ ⟨rfl, rfl, rfl, rfl, rfl, trivial⟩) ?_)
  intro k hk
  refine G.seqR tfine rfl trivial ?_
  refine G.seq (G.cond rfl (fun h => ?_) (fun h => ?_))
  rotate_left
  · have h := of_decide_eq_false h
    have : k = l.length := by omega
    subst this
    refine G.exit ?_
    refine G.seqR tfine rfl trivial ?_
    refine G.ret (endK.ret rfl ?_)
    rw [List.take_length]
  have h := of_decide_eq_true h
  have hlt : k < l.length := by omega
  refine G.skip ?_
  refine G.seq (G.block ?_)
  refine G.seqR tfine rfl ?_ ?_
  · simp [AllP]; omega
  rw [Int.toNat_natCast]
  refine G.regC tfine rfl trivial ?_
  refine GO.callPlain (v := .bool ((l.take k).all okR && okR (l.getD k rep0))) rfl rfl rfl rfl (fun args w => Try.call66 args w) (fun ρ w hm _ => rights1_any _ (l.getD k rep0) w) ?_
  refine GO.fin tfine rfl trivial ?_
  refine G.reg tfine rfl trivial ?_
  rw [IntWalk.i64_in ((k : Int) + 1) (by omega), ← take_all okR l k rep0 hlt]
  exact ⟨k + 1, hlt, (by show l.length - (k + 1) < l.length - k; omega), St.le_of rfl ⟨⟨_, rfl, Blk.le_refl _⟩, trivial⟩ ⟨rfl, rfl, rfl, rfl, rfl, trivial⟩⟩
theorem rights_any (A : Option Addr) (c : Nat) (l : List Rep) (w : World) (hl : RdRow w A l.length 8 (elR l)) (hm : l.length ≤ 4611686018427387904) :
    Calls Try.prog 42 #[.slice A l.length c] w fun e w' => e = .returned (.bool (l.all okR)) ∧ Below w.heap.size w w' := by
  refine enterPlain tfine Try.func42 rfl 5 Try.ntmps42 [.c (.inp 1000 A l.length c)] [⟨1000, A, 8, l.length, elR l⟩] rfl rfl ⟨hl, trivial⟩ ⟨.inl ⟨rfl, rfl, rfl⟩, trivial⟩ ?_
  refine G.seqR tfine rfl trivial ?_
  refine G.seqC tfine rfl trivial ?_
  refine GO.callPlain (v := .bool (l.all okR)) rfl rfl rfl rfl (fun args w => Try.call65 args w) (fun ρ w hs hok => foldB_any A c l w (hs.row (cap := c) rfl (hok _ List.mem_cons_self)) hm) ?_
  refine GO.fin tfine rfl trivial ?_
  exact G.ret (endK.ret rfl rfl)
theorem foldP_any (f : FuncId) (p : Value) (stp : Int × Int → Rep → Int × Int) (hcf : ∀ args w, (callFunc f args).run Try.prog w = .ok (.enter f args) w) (A : Option Addr) (c : Nat) (l : List Rep) (b : Int × Int) (w : World)
    (hf : ∀ w1, Below w.heap.size w w1 → ∀ (b : Int × Int) (r : Rep), Calls Try.prog f #[.agg #[I b.1, I b.2], Rep.v r, p] w1 fun e w' => e = .returned (.agg #[I (stp b r).1, I (stp b r).2]) ∧ Below w1.heap.size w1 w') (hl : RdRow w A l.length 8 (elR l)) (hm : l.length ≤ 4611686018427387904) :
    Calls Try.prog 45 #[.slice A l.length c, .agg #[I b.1, I b.2], .func (.func f) #[] #[p]] w fun e w' => e = .returned (.agg #[I (l.foldl stp b).1, I (l.foldl stp b).2]) ∧ Below w.heap.size w w' := by
  refine enterPlain tfine Try.func45 rfl 21 Try.ntmps45 [.c (.inp 1000 A l.length c), .agg [.k (I b.1), .k (I b.2)], .c (.k (.func (.func f) #[] #[p]))] [⟨1000, A, 8, l.length, elR l⟩] rfl rfl ⟨hl, trivial⟩ ⟨.inl ⟨rfl, rfl, rfl⟩, ⟨trivial, trivial, trivial⟩, trivial, trivial⟩ ?_
  refine G.seqR tfine rfl trivial ?_
  refine G.seq (G.seqR tfine rfl trivial ?_)
  refine G.block (G.loop (fun k : Nat => St.of [(2, .v (.c (.k (.func (.func f) #[] #[p])))), (4, .v (.c (.ptr 4 0 0 0))), (6, .v (.c (.ptr 6 0 0 0))), (9, .v (.c (.inp 1000 A l.length c))), (10, .v (.c (.k (I l.length)))), (11, .v (.c (.k (I k))))]
      [(4, .var 30 [.k (I ((l.take k).foldl stp b).1), .k (I ((l.take k).foldl stp b).2)]), (6, .var 30 [.k (I 0), .k (I 0)]), (1000, .ro 8 l.length (elR l))])
    (fun k => k ≤ l.length) (fun k => l.length - k) 0 (by omega) (St.le_of rfl ⟨⟨_, rfl, Blk.le_refl _⟩, ⟨_, rfl, Blk.le_refl _⟩, ⟨_, rfl, Blk.le_refl _⟩, trivial⟩ ⟨rfl, rfl, rfl, rfl, rfl, rfl, trivial⟩) ?_)
  intro k hk
  refine G.seqR tfine rfl trivial ?_
  refine G.seq (G.cond rfl (fun h => ?_) (fun h => ?_))
  rotate_left
  · have h := of_decide_eq_false h
    have : k = l.length := by omega
    subst this
    refine G.exit ?_
    refine G.seqR tfine rfl trivial ?_
    refine G.ret (endK.ret rfl ?_)
    rw [List.take_length]
  have h := of_decide_eq_true h
  have hlt : k < l.length := by omega
  refine G.skip ?_
  refine G.seq (G.block ?_)
  refine G.seqR tfine rfl ?_ ?_
  · simp [AllP]; omega
  rw [Int.toNat_natCast]
  refine G.regC tfine rfl trivial ?_
  have hstep : (l.take (k + 1)).foldl stp b = stp ((l.take k).foldl stp b) (l.getD k rep0) := by
    rw [List.take_succ_eq_append_getElem hlt, List.foldl_append, List.getD_eq_getElem?_getD, List.getElem?_eq_getElem hlt]
    rfl
  refine GO.callPlain (v := .agg #[I (stp ((l.take k).foldl stp b) (l.getD k rep0)).1, I (stp ((l.take k).foldl stp b) (l.getD k rep0)).2]) rfl rfl rfl rfl hcf (fun ρ w1 hm _ => hf w1 hm.fr.toBelow ((l.take k).foldl stp b) (l.getD k rep0)) ?_
  refine GO.fin tfine rfl trivial ?_
  refine G.reg tfine rfl trivial ?_
  rw [IntWalk.i64_in ((k : Int) + 1) (by omega), ← hstep]
  exact ⟨k + 1, hlt, (by show l.length - (k + 1) < l.length - k; omega), St.le_of rfl ⟨⟨_, rfl, Blk.le_refl _⟩, ⟨_, rfl, Blk.le_refl _⟩, ⟨_, rfl, Blk.le_refl _⟩, trivial⟩ ⟨rfl, rfl, rfl, rfl, rfl, rfl, trivial⟩⟩
def meet (a b : Int × Int) : Int × Int := gauge_Together_2 a.1 a.2 b.1 b.2
def addW (a b : Int × Int) : Int × Int := gauge_Total_1 a.1 a.2 b.1 b.2
def vol (r : Rep) : Int × Int := (r.vl, r.vh)
def alc (r : Rep) : Int × Int := (r.al, r.ah)
theorem meetV_any (g : Nat) (b : Int × Int) (r : Rep) (w : World) (hg : w.heap[g]? = some (.cells #[.func (.func 44) #[] #[]] 68 (0, 0))) :
    Calls Try.prog 46 #[.agg #[I b.1, I b.2], Rep.v r, .pointer (some ⟨g, 0, none⟩)] w fun e w' => e = .returned (.agg #[I (meet b (vol r)).1, I (meet b (vol r)).2]) ∧ Below w.heap.size w w' := by
  refine enterCap tfine (g := g) 68 [.k (.func (.func 44) #[] #[])] Try.func46 rfl 11 Try.ntmps46 [.agg [.k (I b.1), .k (I b.2)], .agg [.k (I r.d), .k (I r.p), .k (I r.h), .k (I r.s), .k (I r.vl), .k (I r.vh), .k (I r.al), .k (I r.ah)], .c (.ptr 1900 0 0 0)] [] trivial hg rfl rfl trivial ⟨trivial, trivial⟩
    ⟨⟨trivial, trivial, trivial⟩, ⟨trivial, trivial, trivial, trivial, trivial, trivial, trivial, trivial, trivial⟩, rfl, trivial⟩ ?_
  refine G.seqR tfine rfl trivial ?_
  refine G.seqC tfine rfl trivial ?_
  refine GO.callPlain (v := .agg #[I (meet b (vol r)).1, I (meet b (vol r)).2]) rfl rfl rfl rfl (fun args w => Try.call44 args w) (fun ρ w hm _ => gauge_Together_2_any b.1 b.2 (vol r).1 (vol r).2 w) ?_
  refine GO.fin tfine rfl trivial ?_
  exact G.ret (endCap.ret rfl rfl rfl)
theorem meetA_any (g : Nat) (b : Int × Int) (r : Rep) (w : World) (hg : w.heap[g]? = some (.cells #[.func (.func 44) #[] #[]] 68 (0, 0))) :
    Calls Try.prog 47 #[.agg #[I b.1, I b.2], Rep.v r, .pointer (some ⟨g, 0, none⟩)] w fun e w' => e = .returned (.agg #[I (meet b (alc r)).1, I (meet b (alc r)).2]) ∧ Below w.heap.size w w' := by
  refine enterCap tfine (g := g) 68 [.k (.func (.func 44) #[] #[])] Try.func47 rfl 11 Try.ntmps47 [.agg [.k (I b.1), .k (I b.2)], .agg [.k (I r.d), .k (I r.p), .k (I r.h), .k (I r.s), .k (I r.vl), .k (I r.vh), .k (I r.al), .k (I r.ah)], .c (.ptr 1900 0 0 0)] [] trivial hg rfl rfl trivial ⟨trivial, trivial⟩
    ⟨⟨trivial, trivial, trivial⟩, ⟨trivial, trivial, trivial, trivial, trivial, trivial, trivial, trivial, trivial⟩, rfl, trivial⟩ ?_
  refine G.seqR tfine rfl trivial ?_
  refine G.seqC tfine rfl trivial ?_
  refine GO.callPlain (v := .agg #[I (meet b (alc r)).1, I (meet b (alc r)).2]) rfl rfl rfl rfl (fun args w => Try.call44 args w) (fun ρ w hm _ => gauge_Together_2_any b.1 b.2 (alc r).1 (alc r).2 w) ?_
  refine GO.fin tfine rfl trivial ?_
  exact G.ret (endCap.ret rfl rfl rfl)
theorem addV_any (g : Nat) (b : Int × Int) (r : Rep) (w : World) (hg : w.heap[g]? = some (.cells #[.func (.func 48) #[] #[]] 68 (0, 0))) :
    Calls Try.prog 49 #[.agg #[I b.1, I b.2], Rep.v r, .pointer (some ⟨g, 0, none⟩)] w fun e w' => e = .returned (.agg #[I (addW b (vol r)).1, I (addW b (vol r)).2]) ∧ Below w.heap.size w w' := by
  refine enterCap tfine (g := g) 68 [.k (.func (.func 48) #[] #[])] Try.func49 rfl 11 Try.ntmps49 [.agg [.k (I b.1), .k (I b.2)], .agg [.k (I r.d), .k (I r.p), .k (I r.h), .k (I r.s), .k (I r.vl), .k (I r.vh), .k (I r.al), .k (I r.ah)], .c (.ptr 1900 0 0 0)] [] trivial hg rfl rfl trivial ⟨trivial, trivial⟩
    ⟨⟨trivial, trivial, trivial⟩, ⟨trivial, trivial, trivial, trivial, trivial, trivial, trivial, trivial, trivial⟩, rfl, trivial⟩ ?_
  refine G.seqR tfine rfl trivial ?_
  refine G.seqC tfine rfl trivial ?_
  refine GO.callPlain (v := .agg #[I (addW b (vol r)).1, I (addW b (vol r)).2]) rfl rfl rfl rfl (fun args w => Try.call48 args w) (fun ρ w hm _ => gauge_Total_1_any b.1 b.2 (vol r).1 (vol r).2 w) ?_
  refine GO.fin tfine rfl trivial ?_
  exact G.ret (endCap.ret rfl rfl rfl)
theorem addA_any (g : Nat) (b : Int × Int) (r : Rep) (w : World) (hg : w.heap[g]? = some (.cells #[.func (.func 48) #[] #[]] 68 (0, 0))) :
    Calls Try.prog 50 #[.agg #[I b.1, I b.2], Rep.v r, .pointer (some ⟨g, 0, none⟩)] w fun e w' => e = .returned (.agg #[I (addW b (alc r)).1, I (addW b (alc r)).2]) ∧ Below w.heap.size w w' := by
  refine enterCap tfine (g := g) 68 [.k (.func (.func 48) #[] #[])] Try.func50 rfl 11 Try.ntmps50 [.agg [.k (I b.1), .k (I b.2)], .agg [.k (I r.d), .k (I r.p), .k (I r.h), .k (I r.s), .k (I r.vl), .k (I r.vh), .k (I r.al), .k (I r.ah)], .c (.ptr 1900 0 0 0)] [] trivial hg rfl rfl trivial ⟨trivial, trivial⟩
    ⟨⟨trivial, trivial, trivial⟩, ⟨trivial, trivial, trivial, trivial, trivial, trivial, trivial, trivial, trivial⟩, rfl, trivial⟩ ?_
  refine G.seqR tfine rfl trivial ?_
  refine G.seqC tfine rfl trivial ?_
  refine GO.callPlain (v := .agg #[I (addW b (alc r)).1, I (addW b (alc r)).2]) rfl rfl rfl rfl (fun args w => Try.call48 args w) (fun ρ w hm _ => gauge_Total_1_any b.1 b.2 (alc r).1 (alc r).2 w) ?_
  refine GO.fin tfine rfl trivial ?_
  exact G.ret (endCap.ret rfl rfl rfl)
end Go.Proofs.Ytiicemgngccicaa
/- Chapter 15: what reports say together, and their totals. -/
set_option linter.unusedVariables false
set_option linter.unusedSimpArgs false
set_option maxRecDepth 8000
set_option maxHeartbeats 1000000
namespace Go.Proofs.Ytiicemgngccicaa
open Go.Sx Go.RowKit
def mis (l : List Rep) (r : Rep) : Bool := (r.s != (l.getD 0 rep0).s) || (r.d != (l.getD 0 rep0).d)
theorem mism_any (g : Nat) (A : Option Addr) (c : Nat) (l : List Rep) (r : Rep) (w : World) (hg : w.heap[g]? = some (.cells #[.slice A l.length c] 47 (0, 0))) (hl : RdRow w A l.length 8 (elR l)) (hap : ∀ a, A = some a → a.block ≠ g) (h0 : 0 < l.length) :
    Calls Try.prog 43 #[Rep.v r, .pointer (some ⟨g, 0, none⟩)] w fun e w' => e = .returned (.bool (mis l r)) ∧ Below w.heap.size w w' := by
  refine enterCap tfine (g := g) 47 [.inp 1000 A l.length c] Try.func43 rfl 24 Try.ntmps43 [.agg [.k (I r.d), .k (I r.p), .k (I r.h), .k (I r.s), .k (I r.vl), .k (I r.vh), .k (I r.al), .k (I r.ah)], .c (.ptr 1900 0 0 0)] [⟨1000, A, 8, l.length, elR l⟩] ⟨(by show 1000 ≠ 1900; decide), fun _ => hap, trivial⟩ hg rfl rfl ⟨hl, trivial⟩ ⟨.inl ⟨rfl, rfl, rfl⟩, trivial⟩
    ⟨⟨trivial, trivial, trivial, trivial, trivial, trivial, trivial, trivial, trivial⟩, rfl, trivial⟩ ?_
  refine G.seqR tfine rfl trivial ?_
  refine G.seqD tfine hmix [0, 1, 3, 0, 8, 24, 56, 120, 255, 511, 1023, 2047, 4095, 1023, 9215, 25599, 58367, 123903, 262143, 524287, 1048575] [] rfl rfl rfl rfl ?_ ?_
  · simp [AllP, condB]; omega
  exact G.ret (endCap.ret rfl rfl rfl)
def mV (b : Int × Int) (r : Rep) : Int × Int := meet b (vol r)
def mA (b : Int × Int) (r : Rep) : Int × Int := meet b (alc r)
def aV (b : Int × Int) (r : Rep) : Int × Int := addW b (vol r)
def aA (b : Int × Int) (r : Rep) : Int × Int := addW b (alc r)
def tog5 (l : List Rep) : Int × Int × Int × Int × Int :=
  if ((l.length : Int) == 0) = true then (0, 0, 0, 0, 9) else if decide ((l.length : Int) > 64) = true then (0, 0, 0, 0, 8) else if (!(l.all okR)) = true then (0, 0, 0, 0, 1) else if l.any (mis l) = true then (0, 0, 0, 0, 10)
  else if decide ((l.foldl mV (vol (l.getD 0 rep0))).1 > (l.foldl mV (vol (l.getD 0 rep0))).2) = true then (0, 0, 0, 0, 18)
  else ((l.foldl mV (vol (l.getD 0 rep0))).1, (l.foldl mV (vol (l.getD 0 rep0))).2, (l.foldl mA (alc (l.getD 0 rep0))).1, (l.foldl mA (alc (l.getD 0 rep0))).2, 0)
def B5 (x : Int × Int × Int × Int × Int) : Value := .tuple #[.agg #[I x.1, I x.2.1], .agg #[I x.2.2.1, I x.2.2.2.1], I x.2.2.2.2]
theorem together_any (A : Option Addr) (c : Nat) (l : List Rep) (w : World) (hl : RdRow w A l.length 8 (elR l)) (hm : l.length ≤ 4611686018427387904) :
    Calls Try.prog 20 #[.slice A l.length c] w fun e w' => e = .returned (B5 (tog5 l)) ∧ Below w.heap.size w w' := by
  refine enterPlain tfine Try.func20 rfl 55 Try.ntmps20 [.c (.inp 1000 A l.length c)] [⟨1000, A, 8, l.length, elR l⟩] rfl rfl ⟨hl, trivial⟩ ⟨.inl ⟨rfl, rfl, rfl⟩, trivial⟩ ?_
  refine G.seqR tfine rfl trivial ?_
  refine G.seq (G.block ?_)
  refine G.seqR tfine rfl trivial ?_
  refine G.cond rfl (fun h1 => ?_) (fun h1 => ?_)
  · refine G.seqR tfine rfl trivial ?_
    refine G.ret (endK.ret rfl ?_)
    rw [tog5, if_pos h1]; rfl
  refine G.seqR tfine rfl trivial ?_
  refine G.cond rfl (fun h2 => ?_) (fun h2 => ?_)
  · refine G.seqR tfine rfl trivial ?_
    refine G.ret (endK.ret rfl ?_)
    rw [tog5, if_neg (fne h1), if_pos h2]; rfl
  refine G.seqC tfine rfl trivial ?_
  refine GO.callPlain (v := .bool (l.all okR)) rfl rfl rfl rfl (fun args w => Try.call42 args w) (fun ρ w hs hok => rights_any A c l w (hs.row (cap := c) rfl (hok _ List.mem_cons_self)) hm) ?_
  refine GO.fin tfine rfl trivial ?_
  refine G.cond rfl (fun h3 => ?_) (fun h3 => ?_)
  · refine G.seqR tfine rfl trivial ?_
    refine G.ret (endK.ret rfl ?_)
    rw [tog5, if_neg (fne h1), if_neg (fne h2), if_pos h3]; rfl
  have h0 : 0 < l.length := by
    have : l.length ≠ 0 := by simpa using h1
    omega
  refine G.seqC tfine rfl trivial ?_
  refine GO.callPlain (v := .bool (l.any (mis l))) rfl rfl rfl rfl (fun args w => Try.call25 args w) (fun ρ w1 hs hok => ?_) ?_
  · have hk := hs.ok 1 _ rfl
    have hg : w1.heap[(ρ 1).1]? = some (.cells #[.slice A l.length c] 47 (0, 0)) := hk.2.2.1
    have hi : AC.ok ρ _ (.inp 1000 A l.length c) := hok _ List.mem_cons_self
    have hrow : RdRow w1 A l.length 8 (elR l) := hs.row (cap := c) rfl hi
    have hne : ∀ a, A = some a → a.block ≠ (ρ 1).1 := by
      intro a ha
      have h5 := hi.2 h0
      rw [ha] at h5
      injection h5 with h5
      rw [h5]
      exact (hs.ne 1 1000 _ _ rfl rfl trivial h0 (by decide)).symm
    have := containsFuncR_any 43 (mis l) (.pointer (some ⟨(ρ 1).1, 0, none⟩)) (fun args w => Try.call43 args w) A c l w1
      (fun w2 hb v hv => mism_any (ρ 1).1 A c l v w2 ((hb.block _ (Array.getElem?_eq_some_iff.1 hg).1).trans hg) (hrow.below hb) hne h0) hrow hm
    rw [firstI_any, any_getDg] at this
    show Calls Try.prog 25 #[.slice A l.length c, .func (.func 43) #[] #[.pointer (some ⟨(ρ 1).1, (ρ 1).2 + 0, none⟩)]] w1 _
    rw [hk.1]
    exact this
  refine GO.fin tfine rfl trivial ?_
  refine G.cond rfl (fun h4 => ?_) (fun h4 => ?_)
  · refine G.seqR tfine rfl trivial ?_
    refine G.ret (endK.ret rfl ?_)
    rw [tog5, if_neg (fne h1), if_neg (fne h2), if_neg (fne h3), if_pos h4]; rfl
  refine G.skip ?_
  refine G.seqR tfine rfl trivial ?_
  refine G.seqDraw hmix [0, 0, 2, 6, 14, 0, 63, 0, 255] [(8, 6)] rfl rfl rfl ?_
  refine GD.more tfine 0 rfl rfl ?_ ?_
  · simp [AllP, condB]; omega
  refine GD.call (v := .agg #[I (l.foldl mV (vol (l.getD 0 rep0))).1, I (l.foldl mV (vol (l.getD 0 rep0))).2]) 6 rfl rfl rfl rfl rfl (fun args w => Try.call45 args w) (fun m hle ρ w1 hs hok => ?_) ?_
  · have hk := hs.ok 5 _ (LeM.at hle rfl)
    have hg : w1.heap[(ρ 5).1]? = some (.cells #[.func (.func 44) #[] #[]] 68 (0, 0)) := hk.2.2.1
    have hrow : RdRow w1 A l.length 8 (elR l) := hs.row (cap := c) (LeM.at hle rfl) (hok _ List.mem_cons_self)
    have := foldP_any 46 (.pointer (some ⟨(ρ 5).1, 0, none⟩)) mV (fun args w => Try.call46 args w) A c l (vol (l.getD 0 rep0)) w1
      (fun w2 hb b r => meetV_any (ρ 5).1 b r w2 ((hb.block _ (Array.getElem?_eq_some_iff.1 hg).1).trans hg)) hrow hm
    show Calls Try.prog 45 #[.slice A l.length c, .agg #[I (l.getD 0 rep0).vl, I (l.getD 0 rep0).vh], .func (.func 46) #[] #[.pointer (some ⟨(ρ 5).1, (ρ 5).2 + 0, none⟩)]] w1 _
    rw [hk.1]
    exact this
  refine GD.fin tfine 7 rfl rfl ?_ ?_
  · simp [AllP, condB]
  refine G.seqDraw hmix [0, 0, 2, 6, 14, 0, 63, 0, 255] [(8, 7)] rfl rfl rfl ?_
  refine GD.more tfine 0 rfl rfl ?_ ?_
  · simp [AllP, condB]; omega
  refine GD.call (v := .agg #[I (l.foldl mA (alc (l.getD 0 rep0))).1, I (l.foldl mA (alc (l.getD 0 rep0))).2]) 6 rfl rfl rfl rfl rfl (fun args w => Try.call45 args w) (fun m hle ρ w1 hs hok => ?_) ?_
  · have hk := hs.ok 5 _ (LeM.at hle rfl)
    have hg : w1.heap[(ρ 5).1]? = some (.cells #[.func (.func 44) #[] #[]] 68 (0, 0)) := hk.2.2.1
    have hrow : RdRow w1 A l.length 8 (elR l) := hs.row (cap := c) (LeM.at hle rfl) (hok _ List.mem_cons_self)
    have := foldP_any 47 (.pointer (some ⟨(ρ 5).1, 0, none⟩)) mA (fun args w => Try.call47 args w) A c l (alc (l.getD 0 rep0)) w1
      (fun w2 hb b r => meetA_any (ρ 5).1 b r w2 ((hb.block _ (Array.getElem?_eq_some_iff.1 hg).1).trans hg)) hrow hm
    show Calls Try.prog 45 #[.slice A l.length c, .agg #[I (l.getD 0 rep0).al, I (l.getD 0 rep0).ah], .func (.func 47) #[] #[.pointer (some ⟨(ρ 5).1, (ρ 5).2 + 0, none⟩)]] w1 _
    rw [hk.1]
    exact this
  refine GD.fin tfine 7 rfl rfl ?_ ?_
  · simp [AllP, condB]
  refine G.seq (G.seqR tfine rfl trivial ?_)
  refine G.cond rfl (fun h5 => ?_) (fun h5 => ?_)
  · refine G.seqR tfine rfl trivial ?_
    refine G.ret (endK.ret rfl ?_)
    rw [tog5, if_neg (fne h1), if_neg (fne h2), if_neg (fne h3), if_neg (fne h4), if_pos h5]; rfl
  refine G.skip ?_
  refine G.seqD tfine hmix [0, 0, 1, 7, 15] [(2, 2), (3, 3)] rfl rfl rfl rfl trivial ?_
  refine G.ret (endK.ret rfl ?_)
  rw [tog5, if_neg (fne h1), if_neg (fne h2), if_neg (fne h3), if_neg (fne h4), if_neg (fne h5)]; rfl
def tot5 (l : List Rep) : Int × Int × Int × Int × Int :=
  if decide ((l.length : Int) > 64) = true then (0, 0, 0, 0, 8) else if (!(l.all okR)) = true then (0, 0, 0, 0, 1)
  else ((l.foldl aV (0, 0)).1, (l.foldl aV (0, 0)).2, (l.foldl aA (0, 0)).1, (l.foldl aA (0, 0)).2, 0)
theorem total_any (A : Option Addr) (c : Nat) (l : List Rep) (w : World) (hl : RdRow w A l.length 8 (elR l)) (hm : l.length ≤ 4611686018427387904) :
    Calls Try.prog 23 #[.slice A l.length c] w fun e w' => e = .returned (B5 (tot5 l)) ∧ Below w.heap.size w w' := by
  refine enterPlain tfine Try.func23 rfl 28 Try.ntmps23 [.c (.inp 1000 A l.length c)] [⟨1000, A, 8, l.length, elR l⟩] rfl rfl ⟨hl, trivial⟩ ⟨.inl ⟨rfl, rfl, rfl⟩, trivial⟩ ?_
  refine G.seqR tfine rfl trivial ?_
  refine G.seq (G.seqR tfine rfl trivial ?_)
  refine G.cond rfl (fun h2 => ?_) (fun h2 => ?_)
  · refine G.seqR tfine rfl trivial ?_
    refine G.ret (endK.ret rfl ?_)
    rw [tot5, if_pos h2]; rfl
  refine G.skip ?_
  refine G.seq (G.seqC tfine rfl trivial ?_)
  refine GO.callPlain (v := .bool (l.all okR)) rfl rfl rfl rfl (fun args w => Try.call42 args w) (fun ρ w hs hok => rights_any A c l w (hs.row (cap := c) rfl (hok _ List.mem_cons_self)) hm) ?_
  refine GO.fin tfine rfl trivial ?_
  refine G.cond rfl (fun h3 => ?_) (fun h3 => ?_)
  · refine G.seqR tfine rfl trivial ?_
    refine G.ret (endK.ret rfl ?_)
    rw [tot5, if_neg (fne h2), if_pos h3]; rfl
  refine G.skip ?_
  refine G.seqR tfine rfl trivial ?_
  refine G.seqC tfine rfl trivial ?_
  refine GO.callPlain (v := .agg #[I (l.foldl aV (0, 0)).1, I (l.foldl aV (0, 0)).2]) rfl rfl rfl rfl (fun args w => Try.call45 args w) (fun ρ w1 hs hok => ?_) ?_
  · have hk := hs.ok 5 _ rfl
    have hg : w1.heap[(ρ 5).1]? = some (.cells #[.func (.func 48) #[] #[]] 68 (0, 0)) := hk.2.2.1
    have hrow : RdRow w1 A l.length 8 (elR l) := hs.row (cap := c) rfl (hok _ List.mem_cons_self)
    have := foldP_any 49 (.pointer (some ⟨(ρ 5).1, 0, none⟩)) aV (fun args w => Try.call49 args w) A c l (0, 0) w1
      (fun w2 hb b r => addV_any (ρ 5).1 b r w2 ((hb.block _ (Array.getElem?_eq_some_iff.1 hg).1).trans hg)) hrow hm
    show Calls Try.prog 45 #[.slice A l.length c, .agg #[I 0, I 0], .func (.func 49) #[] #[.pointer (some ⟨(ρ 5).1, (ρ 5).2 + 0, none⟩)]] w1 _
    rw [hk.1]
    exact this
  refine GO.fin tfine rfl trivial ?_
  refine G.seqC tfine rfl trivial ?_
  refine GO.callPlain (v := .agg #[I (l.foldl aA (0, 0)).1, I (l.foldl aA (0, 0)).2]) rfl rfl rfl rfl (fun args w => Try.call45 args w) (fun ρ w1 hs hok => ?_) ?_
  · have hk := hs.ok 5 _ rfl
    have hg : w1.heap[(ρ 5).1]? = some (.cells #[.func (.func 48) #[] #[]] 68 (0, 0)) := hk.2.2.1
    have hrow : RdRow w1 A l.length 8 (elR l) := hs.row (cap := c) rfl (hok _ List.mem_cons_self)
    have := foldP_any 50 (.pointer (some ⟨(ρ 5).1, 0, none⟩)) aA (fun args w => Try.call50 args w) A c l (0, 0) w1
      (fun w2 hb b r => addA_any (ρ 5).1 b r w2 ((hb.block _ (Array.getElem?_eq_some_iff.1 hg).1).trans hg)) hrow hm
    show Calls Try.prog 45 #[.slice A l.length c, .agg #[I 0, I 0], .func (.func 50) #[] #[.pointer (some ⟨(ρ 5).1, (ρ 5).2 + 0, none⟩)]] w1 _
    rw [hk.1]
    exact this
  refine GO.fin tfine rfl trivial ?_
  refine G.seqD tfine hmix [0, 0, 1, 7, 15] [(2, 2), (3, 3)] rfl rfl rfl rfl trivial ?_
  refine G.ret (endK.ret rfl ?_)
  rw [tot5, if_neg (fne h2), if_neg (fne h3)]; rfl
end Go.Proofs.Ytiicemgngccicaa
/- Chapter 15: the reference's Together and Total. -/
set_option linter.unusedVariables false
set_option linter.unusedSimpArgs false
set_option maxRecDepth 8000
set_option maxHeartbeats 1000000
namespace Go.Proofs.Ytiicemgngccicaa
open Go.Sx Go.RowKit
theorem reading_eq (a b c d : Int) : (gauge_Check a b c d == 0) = spileref15_IsReading a b c d := by
  unfold gauge_Check spileref15_IsReading gauge_in
  rw [heat_eq]
  unfold thermal_heat
  rw [Bool.eq_iff_iff]
  split
  · rename_i h
    simp at h ⊢
    omega
  · rename_i h
    simp at h ⊢
    omega
theorem refRight_eq (r : Rep) : spileref15_Right r.d r.p r.h r.s r.vl r.vh r.al r.ah = okR r := by
  unfold spileref15_Right okR gauge_Right
  rw [reading_eq]
  cases spileref15_IsReading r.d r.p r.h r.s with
  | false => rfl
  | true =>
    have e : spileref15_times r.vl r.vh r.s = gauge_times r.vl r.vh r.s := rfl
    rw [e]
    by_cases h1 : r.vl ≥ 0
    · by_cases h2 : r.vl ≤ r.vh
      · by_cases h3 : r.vh ≤ 34359738368
        · rw [if_neg (by simp; omega), decide_eq_true h1, decide_eq_true h2, decide_eq_true h3]
          rfl
        · rw [if_pos (by simp; omega), decide_eq_false h3]
          simp
      · rw [if_pos (by simp; omega), decide_eq_false h2]
        simp
    · rw [if_pos (by simp; omega), decide_eq_false h1]
      simp
theorem refRight_any (r : Rep) (w : World) : Calls Try.prog 28 #[Rep.v r] w fun e w' => e = .returned (.bool (okR r)) ∧ Below w.heap.size w w' := by
  have := spileref15_Right_any r.d r.p r.h r.s r.vl r.vh r.al r.ah w
  rw [refRight_eq] at this
  exact this
theorem all_of {α : Type} {q : α → Bool} {l : List α} {d : α} (h : ∀ j, j < l.length → q (l.getD j d) = true) : l.all q = true := by
  rw [List.all_eq_true]
  intro x hx
  obtain ⟨i, hi, rfl⟩ := List.mem_iff_getElem.1 hx
  have := h i hi
  rwa [List.getD_eq_getElem?_getD, List.getElem?_eq_getElem hi] at this
theorem all_not {α : Type} {q : α → Bool} {l : List α} {d : α} {k : Nat} (hk : k < l.length) (h : q (l.getD k d) = false) : l.all q = false := by
  cases ha : l.all q with
  | false => rfl
  | true => rw [List.all_eq_true] at ha; rw [ha _ (getD_mem hk)] at h; cases h
theorem take_foldl {α β : Type} (f : β → α → β) (b : β) (l : List α) (d : α) (k : Nat) (hk : k < l.length) : (l.take (k + 1)).foldl f b = f ((l.take k).foldl f b) (l.getD k d) := by
  rw [List.take_succ_eq_append_getElem hk, List.foldl_append, List.getD_eq_getElem?_getD, List.getElem?_eq_getElem hk]
  rfl
theorem refTotal_any (A : Option Addr) (c : Nat) (l : List Rep) (w : World) (hl : RdRow w A l.length 8 (elR l)) (hm : l.length ≤ 4611686018427387904) :
    Calls Try.prog 24 #[.slice A l.length c] w fun e w' => e = .returned (B5 (tot5 l)) ∧ Below w.heap.size w w' := by
  refine enterPlain tfine Try.func24 rfl 71 Try.ntmps24 [.c (.inp 1000 A l.length c)] [⟨1000, A, 8, l.length, elR l⟩] rfl rfl ⟨hl, trivial⟩ ⟨.inl ⟨rfl, rfl, rfl⟩, trivial⟩ ?_
  refine G.seqR tfine rfl trivial ?_
  refine G.seq (G.seqR tfine rfl trivial ?_)
  refine G.cond rfl (fun h2 => ?_) (fun h2 => ?_)
  · refine G.seqR tfine rfl trivial ?_
    refine G.ret (endK.ret rfl ?_)
    rw [tot5, if_pos h2]; rfl
  refine G.skip ?_
  refine G.seqR tfine rfl trivial ?_
  refine G.seq (G.seqR tfine rfl trivial ?_)
  refine G.block (G.loop (fun k : Nat => St.of [(0, .v (.c (.inp 1000 A l.length c))), (2, .v (.c (.ptr 2 0 0 0))), (3, .v (.c (.ptr 3 0 0 0))), (4, .v (.c (.k (I 0)))), (5, .v (.c (.ptr 5 0 0 0))), (6, .v (.c (.ptr 6 0 0 0))), (7, .v (.c (.k (I k))))]
      [(2, .var 30 [.k (I 0), .k (I 0)]), (3, .var 30 [.k (I 0), .k (I 0)]), (5, .var 30 [.k (I ((l.take k).foldl aV (0, 0)).1), .k (I ((l.take k).foldl aV (0, 0)).2)]), (6, .var 30 [.k (I ((l.take k).foldl aA (0, 0)).1), .k (I ((l.take k).foldl aA (0, 0)).2)]), (1000, .ro 8 l.length (elR l))])
    (fun k => k ≤ l.length ∧ ∀ j, j < k → okR (l.getD j rep0) = true) (fun k => l.length - k) 0 ⟨by omega, fun j h5 => by omega⟩
    (St.le_of rfl ⟨⟨_, rfl, Blk.le_refl _⟩, ⟨_, rfl, Blk.le_refl _⟩, ⟨_, rfl, Blk.le_refl _⟩, ⟨_, rfl, Blk.le_refl _⟩, ⟨_, rfl, Blk.le_refl _⟩, trivial⟩ ⟨rfl, rfl, rfl, rfl, rfl, rfl, rfl, trivial⟩) ?_)
  rintro k ⟨hk2, hpre⟩
  refine G.seq (G.seqR tfine rfl trivial ?_)
  refine G.cond rfl (fun h => ?_) (fun h => ?_)
  rotate_left
  · have h := of_decide_eq_false h
    have : k = l.length := by omega
    subst this
    refine G.exit ?_
    refine G.seqD tfine hmix [0, 0, 1, 7, 15] [(2, 2), (3, 3)] rfl rfl rfl rfl trivial ?_
    refine G.ret (endK.ret rfl ?_)
    rw [tot5, if_neg (fne h2), if_neg (by rw [all_of hpre]; simp), List.take_length]; rfl
  have h := of_decide_eq_true h
  have hlt : k < l.length := by omega
  refine G.skip ?_
  refine G.seq (G.block ?_)
  refine G.seq (G.seqC tfine rfl ?_ ?_)
  · simp [AllP]; omega
  rw [Int.toNat_natCast]
  refine GO.callPlain (v := .bool (okR (l.getD k rep0))) rfl rfl rfl rfl (fun args w => Try.call28 args w) (fun ρ w hm _ => refRight_any (l.getD k rep0) w) ?_
  refine GO.fin tfine rfl trivial ?_
  refine G.cond rfl (fun h3 => ?_) (fun h3 => ?_)
  · refine G.seqR tfine rfl trivial ?_
    refine G.ret (endK.ret rfl ?_)
    rw [tot5, if_neg (fne h2), if_pos (by rw [all_not hlt (by simpa using h3)]; rfl)]; rfl
  refine G.skip ?_
  refine G.seqD tfine hmix [0, 1, 0, 0, 12, 28, 60, 124, 255, 0, 512, 0, 0, 6144, 14336, 30720, 63488, 130560, 2047, 264191, 1048575, 2097151] [(19, 5), (21, 5)] rfl rfl rfl rfl ?_ ?_
  · simp [AllP]; omega
  rw [Int.toNat_natCast]
  refine G.regD tfine hmix [0, 1, 0, 0, 12, 28, 60, 124, 255, 0, 512, 0, 0, 6144, 14336, 30720, 63488, 130560, 2047, 264191, 1048575, 2097151] [(19, 6), (21, 6)] rfl rfl rfl rfl ?_ ?_
  · simp [AllP]; omega
  rw [Int.toNat_natCast]
  refine G.reg tfine rfl trivial ?_
  rw [IntWalk.i64_in ((k : Int) + 1) (by omega)]
  have e1 := take_foldl aV (0, 0) l rep0 k hlt
  have e2 := take_foldl aA (0, 0) l rep0 k hlt
  refine ⟨k + 1, ⟨hlt, fun j h8 => ?_⟩, (by show l.length - (k + 1) < l.length - k; omega), ?_⟩
  · by_cases e : j = k
    · rw [e]; simpa using h3
    · exact hpre j (by omega)
  · simp only [e1, e2]
    exact St.le_of rfl ⟨⟨_, rfl, Blk.le_refl _⟩, ⟨_, rfl, Blk.le_refl _⟩, ⟨_, rfl, Blk.le_refl _⟩, ⟨_, rfl, Blk.le_refl _⟩, ⟨_, rfl, Blk.le_refl _⟩, trivial⟩ ⟨rfl, rfl, rfl, rfl, rfl, rfl, rfl, trivial⟩
/-! ### The bounds together: alcohol is volume times strength -/
theorem meet_eq (a b : Int × Int) : meet a b = (if b.1 > a.1 then b.1 else a.1, if b.2 < a.2 then b.2 else a.2) := rfl
theorem okR_facts {r : Rep} (h : okR r = true) : (0 ≤ r.s ∧ r.s ≤ 10000) ∧ 0 ≤ r.vl ∧ r.vl ≤ r.vh ∧ r.vh ≤ 34359738368 ∧ r.al = r.vl * r.s ∧ r.ah = r.vh * r.s := by
  unfold okR gauge_Right at h
  rw [reading_eq] at h
  simp only [Bool.and_eq_true, decide_eq_true_eq, beq_iff_eq] at h
  obtain ⟨⟨⟨⟨h1, h2⟩, h3⟩, h4⟩, h5, h6⟩ := h
  have hs : 0 ≤ r.s ∧ r.s ≤ 10000 := by
    unfold spileref15_IsReading at h1
    simp at h1
    omega
  have m1 : 0 ≤ r.vl * r.s := Int.mul_nonneg h2 hs.1
  have m2 : r.vl * r.s ≤ r.vh * r.s := Int.mul_le_mul_of_nonneg_right h3 hs.1
  have m3 : r.vh * r.s ≤ 34359738368 * 10000 := Int.mul_le_mul h4 hs.2 hs.1 (by decide)
  unfold gauge_times at h5 h6
  rw [IntWalk.i64_in (r.vl * r.s) (by omega)] at h5
  rw [IntWalk.i64_in (r.vh * r.s) (by omega)] at h6
  exact ⟨hs, h2, h3, h4, h5, h6⟩
theorem fold_times (l : List Rep) (s : Int) (hs : 0 ≤ s) : ∀ (v : Int × Int), (∀ r ∈ l, r.s = s ∧ okR r = true) → l.foldl mA (v.1 * s, v.2 * s) = ((l.foldl mV v).1 * s, (l.foldl mV v).2 * s) := by
  induction l with
  | nil => intro v _; rfl
  | cons r l ih =>
    intro v h
    obtain ⟨e, ho⟩ := h r (by simp)
    have hf := okR_facts ho
    rw [e] at hf
    have hstep : mA (v.1 * s, v.2 * s) r = ((mV v r).1 * s, (mV v r).2 * s) := by
      simp only [mA, mV, meet_eq, alc, vol]
      rw [hf.2.2.2.2.1, hf.2.2.2.2.2]
      refine Prod.ext ?_ ?_
      · simp only
        by_cases h1 : r.vl > v.1
        · rw [if_pos h1]
          by_cases h2 : r.vl * s > v.1 * s
          · rw [if_pos h2]
          · rw [if_neg h2]
            have := Int.mul_le_mul_of_nonneg_right (show v.1 ≤ r.vl by omega) hs
            omega
        · rw [if_neg h1, if_neg]
          have := Int.mul_le_mul_of_nonneg_right (show r.vl ≤ v.1 by omega) hs
          omega
      · simp only
        by_cases h1 : r.vh < v.2
        · rw [if_pos h1]
          by_cases h2 : r.vh * s < v.2 * s
          · rw [if_pos h2]
          · rw [if_neg h2]
            have := Int.mul_le_mul_of_nonneg_right (show r.vh ≤ v.2 by omega) hs
            omega
        · rw [if_neg h1, if_neg]
          have := Int.mul_le_mul_of_nonneg_right (show v.2 ≤ r.vh by omega) hs
          omega
    rw [List.foldl_cons, List.foldl_cons, hstep, ih _ fun x hx => h x (by simp [hx])]
theorem fold_bd (l : List Rep) : ∀ (v : Int × Int), (0 ≤ v.1 ∧ v.1 ≤ 34359738368) → (0 ≤ v.2 ∧ v.2 ≤ 34359738368) → (∀ r ∈ l, okR r = true) → (0 ≤ (l.foldl mV v).1 ∧ (l.foldl mV v).1 ≤ 34359738368) ∧ (0 ≤ (l.foldl mV v).2 ∧ (l.foldl mV v).2 ≤ 34359738368) := by
  induction l with
  | nil => intro v h1 h2 _; exact ⟨h1, h2⟩
  | cons r l ih =>
    intro v h1 h2 h
    have hf := okR_facts (h r (by simp))
    rw [List.foldl_cons]
    refine ih _ ?_ ?_ fun x hx => h x (by simp [hx])
    · simp only [mV, meet_eq, vol]
      split <;> omega
    · simp only [mV, meet_eq, vol]
      split <;> omega
end Go.Proofs.Ytiicemgngccicaa
/- The symbolic executor, part Y: functions that answer a struct whose first part is a row, and calls of them. Generic over P. -/
set_option linter.unusedVariables false
set_option linter.unusedSimpArgs false
namespace Go.Sx
open Go.RowKit
section
variable {P : Program} {E : Env} {K : Exit → St → Prop} {T : Tab}
def tabAt (m : Mem) (n sz : Nat) (el : Nat → List Value) (post : List Value) : TV → Prop
  | .v (.agg (a :: r)) => r = post.map .k ∧ rowAt m n sz el (.v (.c a))
  | _ => False
theorem tabAt_v {m : Mem} {n sz : Nat} {el : Nat → List Value} {post : List Value} {tv : TV} (h : tabAt m n sz el post tv) : ∃ av, tv = .v av := by
  unfold tabAt at h
  split at h
  · exact ⟨_, rfl⟩
  · cases h
def endTab (T : Tab) (fn : Func) (n sz : Nat) (el : Nat → List Value) (post : List Value) : Exit → St → Prop := fun e st => (e = .ret ∨ e = .normal) ∧ ∃ r, fn.results.toList = [r] ∧ tabAt st.m n sz el post (resOne T st r)
theorem enterTab (hT : Tab.fine P T) {f : FuncId} {fn : Func} {c : Code} {args : Array Value} {w : World} (n sz : Nat) (el : Nat → List Value) (post : List Value) (hf : P.funcs[f]? = some fn) (hb : fn.body = some c) (N : Nat) (hN : fn.ntmps = N) (avs : List AV) (l : List Inp)
    (hargs : args = (avs.map (AV.conc (inpsV l))).toArray) (hl : Nat.ble avs.length N = true) (hr : allRd w l) (ha : allInps l avs)
    (h : G P ⟨w, [], N⟩ (endTab T fn n sz el post) c ⟨argsT avs, lkM (inpsM l)⟩) : Calls P f args w fun e w' => ∃ A c, e = .returned (.agg (Value.slice A n c :: post).toArray) ∧ RdNew w w' A n sz el ∧ Below w.heap.size w w' := by
  subst hN
  refine enter (E := ⟨w, [], fn.ntmps⟩) hf hb (inpsV l) (Sat.init hr ha hargs (Nat.le_of_ble_eq_true hl)) (h.mono fun e st hk => ⟨hk.1, fun ρ a w' hs => ?_⟩)
  obtain ⟨r, h1, h2⟩ := hk.2
  obtain ⟨av, hav⟩ := tabAt_v h2
  obtain ⟨h3, h4⟩ := resOne_run hT hs hav
  rw [hav] at h2
  unfold tabAt at h2
  split at h2
  · rename_i a r' e1
    injection e1 with e1
    subst e1
    obtain ⟨rfl, h5⟩ := h2
    obtain ⟨A, c, h6, h7⟩ := rowAt_new hs.mem (tv := .v (.c a)) (v := a.conc ρ) ⟨h4 a (by simp), rfl⟩ h5
    refine ⟨_, results_one h1 h3, A, c, ?_, h7, hs.mem.fr.toBelow⟩
    congr 1
    show Value.agg ((a :: post.map AC.k).map (AC.conc ρ)).toArray = _
    rw [List.map_cons, map_conc_k, h6]
  · cases h2
theorem endTab.ret {fn : Func} {n sz : Nat} {el : Nat → List Value} {post : List Value} {st : St} {r : ResultVar} (h : fn.results.toList = [r]) (hr : tabAt st.m n sz el post (resOne T st r)) : endTab T fn n sz el post .ret st := ⟨.inl rfl, r, h, hr⟩
theorem GO.callTab {ops : Array Oper} {rest : List Oper} {o : Oper} {c : Call} {f : FuncId} {avs : List AV} {caps : List Cap} {t : Nat → TV} {m : Mem} {x n sz : Nat} {el : Nat → List Value} (post : List Value) (hd : o.dst = some x) (hx : m x = none) (hxb : Nat.blt x 1000 = true) (hdN : Nat.blt x E.N = true)
    (hg : o.guard = none) (hop : o.op = .call c) (he : callE t c = .mk f avs caps)
    (hcf : ∀ (args : Array Value) (w : World), (callFunc f args).run P w = .ok (.enter f args) w)
    (hc : ∀ ρ w, SatM E ρ m w → (∀ v ∈ avs, v.ok ρ m) → Calls P f (avs.map (AV.conc ρ) ++ caps.map (Cap.conc ρ)).toArray w fun e w' => ∃ A k, e = .returned (.agg (Value.slice A n k :: post).toArray) ∧ RdNew w w' A n sz el ∧ Below w.heap.size w w')
    (k : ∀ A k, GO P E ops K rest ⟨up t x (.v (.agg (.inp x A n k :: post.map .k))), up m x (some (.ro sz n el))⟩) : GO P E ops K (o :: rest) ⟨t, m⟩ := by
  intro ρ a w hs
  refine GO.call hg hop he hcf (fun ρ a w hs hok _ => (hc ρ w hs.mem hok).mono ?_) ρ a w hs
  rintro e w' ⟨A, cp, rfl, hn, hb⟩
  obtain ⟨ρ', h1, h2, h3⟩ := hs.mem.newRo hb (cap := cp) hx (by simpa [Nat.blt_eq] using hxb) hn
  have hmv := hs.move h2 (fun y hy => isSome_up y hy) h1
  refine ⟨_, ρ', _, rfl, ?_, k A cp⟩
  rw [hd]
  refine hmv.put (by simpa [Nat.blt_eq] using hdN) ⟨?_, ?_⟩
  · intro b hb
    cases hb with
    | head => exact h3
    | tail _ hb =>
      obtain ⟨v, _, rfl⟩ := List.mem_map.1 hb
      trivial
  · show Value.agg _ = Value.agg ((AC.inp x A n cp :: post.map AC.k).map (AC.conc ρ')).toArray
    rw [List.map_cons, map_conc_k]
    rfl
end
end Go.Sx
