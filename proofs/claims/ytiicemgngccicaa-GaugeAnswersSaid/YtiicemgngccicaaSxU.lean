/- Part U: what the arguments of a row hold, cell by cell. Generic over P. -/
import Derived.WideKeyPair
import Derived.ChangeOld
import Derived.Test.YtiicemgngccicaaSxR
set_option linter.unusedVariables false
set_option linter.unusedSimpArgs false
namespace Go.Sx
open Go.ChangeShapes Go.WideShapes Go.RowKit
inductive Leaf where
  | int (k : IntKind) | bool | str | row (size : Nat) (ls : List Leaf)
def LeafAll (p : Leaf → Value → Prop) : List Leaf → List Value → Prop
  | [], [] => True
  | l :: ls, c :: cs => p l c ∧ LeafAll p ls cs
  | _, _ => False
def Leaf.says (w : World) : Nat → Leaf → Value → Prop
  | 0, _, _ => True
  | _ + 1, .int k, c => ∃ z, c = .int k z ∧ (Lit.int k z).wf = true
  | _ + 1, .bool, c => ∃ b, c = .bool b
  | _ + 1, .str, c => ∃ s : ByteArray, c = .string s ∧ s.size ≤ maxLen
  | d + 1, .row size ls, c => ∃ a len cap, c = .slice a len cap ∧ (a = none → len = 0) ∧ len ≤ maxLen ∧ ∃ ess : List (List Value), ess.length = len ∧ RdRow w a len size (fun i => ess.getD i []) ∧ ∀ es ∈ ess, LeafAll (Leaf.says w d) ls es
theorem LeafAll.nil {p : Leaf → Value → Prop} {cs : List Value} (h : LeafAll p [] cs) : cs = [] := by
  cases cs with
  | nil => rfl
  | cons _ _ => exact h.elim
theorem LeafAll.cons {p : Leaf → Value → Prop} {l : Leaf} {ls : List Leaf} {cs : List Value} (h : LeafAll p (l :: ls) cs) : ∃ c r, cs = c :: r ∧ p l c ∧ LeafAll p ls r := by
  cases cs with
  | nil => exact h.elim
  | cons c r => exact ⟨c, r, rfl, h.1, h.2⟩
theorem LeafAll.append {p : Leaf → Value → Prop} {l1 l2 : List Leaf} {c1 c2 : List Value} (h1 : LeafAll p l1 c1) (h2 : LeafAll p l2 c2) : LeafAll p (l1 ++ l2) (c1 ++ c2) := by
  induction l1 generalizing c1 with
  | nil => rw [h1.nil]; exact h2
  | cons l ls ih =>
    obtain ⟨c, r, rfl, h3, h4⟩ := h1.cons
    exact ⟨h3, ih h4⟩
theorem LeafAll.len {p : Leaf → Value → Prop} {ls : List Leaf} {cs : List Value} (h : LeafAll p ls cs) : cs.length = ls.length := by
  induction ls generalizing cs with
  | nil => rw [h.nil]; rfl
  | cons l ls ih =>
    obtain ⟨c, r, rfl, h3, h4⟩ := h.cons
    simp [ih h4]
def leavesF (g : TypeId → Option (List Leaf)) (cells : TypeId → Nat) : Nat → List Field → Option (List Leaf)
  | _, [] => some []
  | i, f :: fs => match g f.type with
    | some l => bif Nat.beq f.offset i && Nat.beq l.length (cells f.type) then (leavesF g cells (i + l.length) fs).map (l ++ ·) else none
    | none => none
def leaves (P : Program) : Nat → TypeId → Option (List Leaf)
  | 0, _ => none
  | n + 1, t => match P.underlying t with
    | some (.int k) => some [.int k]
    | some .bool => some [.bool]
    | some .string => some [.str]
    | some (.slice e) => match leaves P n e with
      | some ls => bif Nat.blt 0 (P.cellsOf e) && Nat.beq ls.length (P.cellsOf e) then some [.row (P.cellsOf e) ls] else none
      | none => none
    | some (.struct fs) => match leavesF (leaves P n) P.cellsOf 0 fs.toList with
      | some ls => bif Nat.beq ls.length (P.cellsOf t) then some ls else none
      | none => none
    | some (.array m e) => match leaves P n e with
      | some ls => bif Nat.beq ls.length (P.cellsOf e) && Nat.beq (m * ls.length) (P.cellsOf t) then some (List.replicate m ls).flatten else none
      | none => none
    | _ => none
theorem mapM_each {α β : Type} {f : α → Option β} {l : List α} {ys : List β} (h : l.mapM f = some ys) : ∀ a ∈ l, ∃ y, f a = some y := by
  induction l generalizing ys with
  | nil => simp
  | cons a r ih =>
    rw [List.mapM_cons] at h
    simp only [bind, Option.bind_eq_some_iff, pure, Option.some.injEq] at h
    obtain ⟨y, hy, zs, hz, _⟩ := h
    intro b hb
    cases hb with
    | head => exact ⟨y, hy⟩
    | tail _ hb => exact ih hz b hb
theorem leavesF_all {p : Leaf → Value → Prop} {g : TypeId → Option (List Leaf)} {cells : TypeId → Nat} {cs : List Value} : ∀ (fs : List Field) (i : Nat) (ls : List Leaf), leavesF g cells i fs = some ls →
    (∀ f ∈ fs, ∀ l, g f.type = some l → LeafAll p l ((cs.drop f.offset).take (cells f.type))) → i + ls.length = cs.length → LeafAll p ls (cs.drop i)
  | [], i, ls, h, _, hl => by
    injection h with h
    subst h
    rw [List.drop_of_length_le (by simp at hl; omega)]
    trivial
  | f :: fs, i, ls, h, hf, hl => by
    unfold leavesF at h
    split at h
    · rename_i l hg
      cases hc : (Nat.beq f.offset i && Nat.beq l.length (cells f.type)) with
      | false => rw [hc] at h; cases h
      | true =>
        rw [hc] at h
        simp only [cond_true, Option.map_eq_some_iff] at h
        obtain ⟨r, hr, rfl⟩ := h
        rw [Bool.and_eq_true] at hc
        have h1 := Nat.eq_of_beq_eq_true hc.1
        have h2 := Nat.eq_of_beq_eq_true hc.2
        have h3 := hf f (by simp) l hg
        rw [h1, ← h2] at h3
        have h4 := leavesF_all fs (i + l.length) r hr (fun f' hm => hf f' (by simp [hm])) (by simp at hl; omega)
        have := h3.append h4
        rwa [← List.drop_drop, List.take_append_drop] at this
    · cases h
theorem replicate_all {p : Leaf → Value → Prop} {l : List Leaf} : ∀ (m : Nat) (cs : List Value), cs.length = m * l.length → (∀ j, j < m → LeafAll p l ((cs.drop (j * l.length)).take l.length)) → LeafAll p (List.replicate m l).flatten cs
  | 0, cs, hl, _ => by
    have : cs = [] := by simpa using hl
    subst this
    trivial
  | m + 1, cs, hl, h => by
    have h0 := h 0 (by omega)
    rw [Nat.zero_mul, List.drop_zero] at h0
    have h1 := replicate_all (l := l) (p := p) m (cs.drop l.length) (by rw [List.length_drop, hl, Nat.add_mul]; omega) fun j hj => by
      have := h (j + 1) (by omega)
      rw [List.drop_drop]
      rwa [show l.length + j * l.length = (j + 1) * l.length by rw [Nat.add_mul]; omega]
    have := h0.append h1
    rw [List.take_append_drop] at this
    rw [List.replicate_succ, List.flatten_cons]
    exact this
section
variable {H : Type} {enc : TypeId × Value → H} {P : Program} {w : World} {sp : Nat → Bool} {held : Bool}
theorem row_spot {x : Addr} {v : Value} (h : w.cell? x = some v) : x.spot = none ∧ x.block < w.heap.size := by
  unfold World.cell? at h
  split at h
  · rename_i hh
    split at h
    · cases h
    · rename_i hn
      refine ⟨?_, (Array.getElem?_eq_some_iff.1 hh).1⟩
      cases hs : x.spot with
      | none => rfl
      | some _ => rw [hs] at hn; exact absurd rfl hn
  · cases h
theorem trod_leaves : ∀ (fuel : Nat) (t : TypeId) (cs : List Value) (x : DataW H × List MemPlace), DataW.trod enc P w 0 sp held fuel t cs = some x → ∀ n ls, leaves P n t = some ls → ∀ d, LeafAll (Leaf.says w d) ls cs := by
  intro fuel
  induction fuel with
  | zero => intro t cs x h; simp [DataW.trod] at h
  | succ fuel ih =>
    intro t cs x h n ls hl d
    cases n with
    | zero => cases hl
    | succ n =>
      unfold leaves at hl
      split at hl
      · rename_i k hu
        obtain ⟨z, rfl, _, hw⟩ := DataW.trod_int hu h
        injection hl with hl
        subst hl
        cases d with
        | zero => exact ⟨trivial, trivial⟩
        | succ d => exact ⟨⟨z, rfl, hw⟩, trivial⟩
      · rename_i hu
        obtain ⟨b, rfl, _⟩ := DataW.trod_bool hu h
        injection hl with hl
        subst hl
        cases d with
        | zero => exact ⟨trivial, trivial⟩
        | succ d => exact ⟨⟨b, rfl⟩, trivial⟩
      · rename_i hu
        obtain ⟨s, rfl, _, hs⟩ := DataW.trod_string hu h
        injection hl with hl
        subst hl
        cases d with
        | zero => exact ⟨trivial, trivial⟩
        | succ d => exact ⟨⟨s, rfl, hs⟩, trivial⟩
      · rename_i e hu
        split at hl
        · rename_i le hle
          cases hc : (Nat.blt 0 (P.cellsOf e) && Nat.beq le.length (P.cellsOf e)) with
          | false => rw [hc] at hl; cases hl
          | true =>
            rw [hc] at hl
            injection hl with hl
            subst hl
            rw [Bool.and_eq_true] at hc
            have hpos : 0 < P.cellsOf e := by simpa [Nat.blt_eq] using hc.1
            rcases DataW.trod_slice hu h with ⟨rfl, _⟩ | ⟨a, len, cap, elems, rest, n', hn', rfl, _, _, hlc, hcm, hlen, hel, _, _⟩
            · cases d with
              | zero => exact ⟨trivial, trivial⟩
              | succ d => exact ⟨⟨none, 0, 0, rfl, fun _ => rfl, by decide, [], rfl, fun h => absurd h (by decide), by simp⟩, trivial⟩
            · cases d with
              | zero => exact ⟨trivial, trivial⟩
              | succ d =>
                injection hn' with hn'
                subst hn'
                have each : ∀ i, i < len → ∃ es, w.cells? 0 (a.add (i * P.cellsOf e)) (P.cellsOf e) = some es ∧ LeafAll (Leaf.says w d) le es := by
                  intro i hi
                  have := hel i hi
                  rw [List.getElem?_eq_getElem (by omega), Option.bind_eq_some_iff] at this
                  obtain ⟨es, h1, h2⟩ := this
                  exact ⟨es, h1, ih e es _ h2 n le hle d⟩
                have : ∃ ess : List (List Value), ess.length = len ∧ ∀ i, i < len → w.cells? 0 (a.add (i * P.cellsOf e)) (P.cellsOf e) = some (ess.getD i []) ∧ LeafAll (Leaf.says w d) le (ess.getD i []) := by
                  refine ⟨(List.range len).map fun i => if hi : i < len then (each i hi).choose else [], by simp, fun i hi => ?_⟩
                  rw [List.getD_eq_getElem?_getD, List.getElem?_map, List.getElem?_range hi]
                  simp only [Option.map_some, Option.getD_some, dif_pos hi]
                  exact (each i hi).choose_spec
                obtain ⟨ess, hsl, hs⟩ := this
                refine ⟨⟨some a, len, cap, rfl, (fun h => by cases h), by omega, ess, hsl, fun h0 => ?_, fun es hm => ?_⟩, trivial⟩
                · have cell : ∀ i, i < len → (ess.getD i []).length = P.cellsOf e ∧ ∀ j, j < P.cellsOf e → w.cell? (a.add (i * P.cellsOf e + j)) = (ess.getD i [])[j]? := by
                    intro i hi
                    have h3 := World.cells?_some (hs i hi).1
                    refine ⟨h3.2.1, fun j hj => ?_⟩
                    have := h3.2.2 j hj
                    rwa [Addr.add_add] at this
                  have h00 := (cell 0 h0).2 0 hpos
                  have hlen0 := (cell 0 h0).1
                  rw [List.getElem?_eq_getElem (by omega), Nat.zero_mul, Nat.add_zero, show a.add 0 = a from rfl] at h00
                  have hsp := row_spot h00
                  obtain ⟨b, o, s⟩ := a
                  have hs0 : s = none := hsp.1
                  subst hs0
                  refine ⟨b, o, rfl, hsp.2, fun i hi => ⟨(cell i hi).1, fun j hj => ?_⟩⟩
                  have := (cell i hi).2 j hj
                  rwa [Addr.add_lit] at this
                · obtain ⟨i, hi, rfl⟩ := List.mem_iff_getElem.1 hm
                  have := (hs i (by omega)).2
                  rwa [List.getD_eq_getElem?_getD, List.getElem?_eq_getElem hi] at this
        · cases hl
      · rename_i fs hu
        split at hl
        · rename_i lf hlf
          cases hc : Nat.beq lf.length (P.cellsOf t) with
          | false => rw [hc] at hl; cases hl
          | true =>
            rw [hc] at hl
            injection hl with hl
            subst hl
            have hcl := Nat.eq_of_beq_eq_true hc
            rw [DataW.trod_step] at h
            unfold DataW.trodStep at h
            simp only [hu] at h
            split at h
            · rename_i hlen
              simp only [Option.map_eq_some_iff] at h
              obtain ⟨ys, hys, _⟩ := h
              have := leavesF_all (p := Leaf.says w d) (cs := cs) fs.toList 0 lf hlf (fun f hf l hg => by
                obtain ⟨y, hy⟩ := mapM_each hys f hf
                exact ih f.type _ y hy n l hg d) (by omega)
              simpa using this
            · cases h
        · cases hl
      · rename_i m e hu
        split at hl
        · rename_i le hle
          cases hc : (Nat.beq le.length (P.cellsOf e) && Nat.beq (m * le.length) (P.cellsOf t)) with
          | false => rw [hc] at hl; cases hl
          | true =>
            rw [hc] at hl
            injection hl with hl
            subst hl
            rw [Bool.and_eq_true] at hc
            have h1 := Nat.eq_of_beq_eq_true hc.1
            have h2 := Nat.eq_of_beq_eq_true hc.2
            rw [DataW.trod_step] at h
            unfold DataW.trodStep at h
            simp only [hu] at h
            split at h
            · rename_i hlen
              simp only [Option.map_eq_some_iff] at h
              obtain ⟨ys, hys, _⟩ := h
              refine replicate_all m cs (by omega) fun j hj => ?_
              obtain ⟨y, hy⟩ := mapM_each hys j (List.mem_range.2 hj)
              rw [← h1] at hy
              exact ih e _ y hy n le hle d
            · cases h
        · cases hl
      · cases hl
/-- The cells of an argument. -/
theorem open_leaves {t : TypeId} {v : Value} {dd : DataW H} {ps : List MemPlace} (h : DataW.Trod enc P w 0 sp held t v dd ps) (n : Nat) {ls : List Leaf} (hl : leaves P n t = some ls) (d : Nat) : LeafAll (Leaf.says w d) ls v.cells.toList := by
  obtain ⟨fuel, hf⟩ := h
  exact trod_leaves fuel t _ _ hf n ls hl d
end
/-- An argument that is a struct or an array is an aggregate. -/
theorem okWide_agg {P : Program} {w : World} {r : Reach} {b0 : Nat} {t : TypeId} {v : Value} (h : Value.okWide P w r b0 t v) (ha : (match P.underlying t with | some (.struct _) => true | some (.array _ _) => true | _ => false) = true) : ∃ cs, v = .agg cs := by
  unfold Value.okWide at h
  split at h
  · exact ⟨_, h.choose_spec.1⟩
  · exact ⟨_, h.choose_spec.1⟩
  · rename_i h1 h2
    split at ha
    · rename_i fs hu; exact absurd hu (h1 fs)
    · rename_i m e hu; exact absurd hu (h2 m e)
    · cases ha
end Go.Sx
