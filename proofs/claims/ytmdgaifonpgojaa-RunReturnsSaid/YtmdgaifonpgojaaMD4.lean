/- Chapter 35: the law RunReturns. -/
import Derived.Test.YtmdgaifonpgojaaMD3
import Derived.WideKeyPair
import Derived.ChangeOld
/- Part U: what the arguments of a row hold, cell by cell. Generic over P. -/
set_option linter.unusedVariables false
set_option linter.unusedSimpArgs false
namespace Go.Sx
open Go.ChangeShapes Go.WideShapes Go.RowKit
inductive Leaf where
  | int (k : IntKind) | bool | str | row (size : Nat) (ls : List Leaf)
def LeafAll (p : Leaf → Value → Prop) : List Leaf → List Value → Prop
  | [], [] => True
  | l :: ls, c :: cs => p l c ∧ LeafAll p ls cs
  | _, _ => False
def Leaf.says (w : World) : Nat → Leaf → Value → Prop
  | 0, _, _ => True
  | _ + 1, .int k, c => ∃ z, c = .int k z ∧ (Lit.int k z).wf = true
  | _ + 1, .bool, c => ∃ b, c = .bool b
  | _ + 1, .str, c => ∃ s : ByteArray, c = .string s ∧ s.size ≤ maxLen
  | d + 1, .row size ls, c => ∃ a len cap, c = .slice a len cap ∧ (a = none → len = 0) ∧ len ≤ maxLen ∧ ∃ ess : List (List Value), ess.length = len ∧ RdRow w a len size (fun i => ess.getD i []) ∧ ∀ es ∈ ess, LeafAll (Leaf.says w d) ls es
theorem LeafAll.nil {p : Leaf → Value → Prop} {cs : List Value} (h : LeafAll p [] cs) : cs = [] := by
  cases cs with
  | nil => rfl
  | cons _ _ => exact h.elim
theorem LeafAll.cons {p : Leaf → Value → Prop} {l : Leaf} {ls : List Leaf} {cs : List Value} (h : LeafAll p (l :: ls) cs) : ∃ c r, cs = c :: r ∧ p l c ∧ LeafAll p ls r := by
  cases cs with
  | nil => exact h.elim
  | cons c r => exact ⟨c, r, rfl, h.1, h.2⟩
theorem LeafAll.append {p : Leaf → Value → Prop} {l1 l2 : List Leaf} {c1 c2 : List Value} (h1 : LeafAll p l1 c1) (h2 : LeafAll p l2 c2) : LeafAll p (l1 ++ l2) (c1 ++ c2) := by
  induction l1 generalizing c1 with
  | nil => rw [h1.nil]; exact h2
  | cons l ls ih =>
    obtain ⟨c, r, rfl, h3, h4⟩ := h1.cons
    exact ⟨h3, ih h4⟩
theorem LeafAll.len {p : Leaf → Value → Prop} {ls : List Leaf} {cs : List Value} (h : LeafAll p ls cs) : cs.length = ls.length := by
  induction ls generalizing cs with
  | nil => rw [h.nil]; rfl
  | cons l ls ih =>
    obtain ⟨c, r, rfl, h3, h4⟩ := h.cons
    simp [ih h4]
def leavesF (g : TypeId → Option (List Leaf)) (cells : TypeId → Nat) : Nat → List Field → Option (List Leaf)
  | _, [] => some []
  | i, f :: fs => match g f.type with
    | some l => bif Nat.beq f.offset i && Nat.beq l.length (cells f.type) then (leavesF g cells (i + l.length) fs).map (l ++ ·) else none
    | none => none
def leaves (P : Program) : Nat → TypeId → Option (List Leaf)
  | 0, _ => none
  | n + 1, t => match P.underlying t with
    | some (.int k) => some [.int k]
    | some .bool => some [.bool]
    | some .string => some [.str]
    | some (.slice e) => match leaves P n e with
      | some ls => bif Nat.blt 0 (P.cellsOf e) && Nat.beq ls.length (P.cellsOf e) then some [.row (P.cellsOf e) ls] else none
      | none => none
    | some (.struct fs) => match leavesF (leaves P n) P.cellsOf 0 fs.toList with
      | some ls => bif Nat.beq ls.length (P.cellsOf t) then some ls else none
      | none => none
    | some (.array m e) => match leaves P n e with
      | some ls => bif Nat.beq ls.length (P.cellsOf e) && Nat.beq (m * ls.length) (P.cellsOf t) then some (List.replicate m ls).flatten else none
      | none => none
    | _ => none
theorem mapM_each {α β : Type} {f : α → Option β} {l : List α} {ys : List β} (h : l.mapM f = some ys) : ∀ a ∈ l, ∃ y, f a = some y := by
  induction l generalizing ys with
  | nil => simp
  | cons a r ih =>
    rw [List.mapM_cons] at h
    simp only [bind, Option.bind_eq_some_iff, pure, Option.some.injEq] at h
    obtain ⟨y, hy, zs, hz, _⟩ := h
    intro b hb
    cases hb with
    | head => exact ⟨y, hy⟩
    | tail _ hb => exact ih hz b hb
theorem leavesF_all {p : Leaf → Value → Prop} {g : TypeId → Option (List Leaf)} {cells : TypeId → Nat} {cs : List Value} : ∀ (fs : List Field) (i : Nat) (ls : List Leaf), leavesF g cells i fs = some ls →
    (∀ f ∈ fs, ∀ l, g f.type = some l → LeafAll p l ((cs.drop f.offset).take (cells f.type))) → i + ls.length = cs.length → LeafAll p ls (cs.drop i)
  | [], i, ls, h, _, hl => by
    injection h with h
    subst h
    rw [List.drop_of_length_le (by simp at hl; omega)]
    trivial
  | f :: fs, i, ls, h, hf, hl => by
    unfold leavesF at h
    split at h
    · rename_i l hg
      cases hc : (Nat.beq f.offset i && Nat.beq l.length (cells f.type)) with
      | false => rw [hc] at h; cases h
      | true =>
        rw [hc] at h
        simp only [cond_true, Option.map_eq_some_iff] at h
        obtain ⟨r, hr, rfl⟩ := h
        rw [Bool.and_eq_true] at hc
        have h1 := Nat.eq_of_beq_eq_true hc.1
        have h2 := Nat.eq_of_beq_eq_true hc.2
        have h3 := hf f (by simp) l hg
        rw [h1, ← h2] at h3
        have h4 := leavesF_all fs (i + l.length) r hr (fun f' hm => hf f' (by simp [hm])) (by simp at hl; omega)
        have := h3.append h4
        rwa [← List.drop_drop, List.take_append_drop] at this
    · cases h
theorem replicate_all {p : Leaf → Value → Prop} {l : List Leaf} : ∀ (m : Nat) (cs : List Value), cs.length = m * l.length → (∀ j, j < m → LeafAll p l ((cs.drop (j * l.length)).take l.length)) → LeafAll p (List.replicate m l).flatten cs
  | 0, cs, hl, _ => by
    have : cs = [] := by simpa using hl
    subst this
    trivial
  | m + 1, cs, hl, h => by
    have h0 := h 0 (by omega)
    rw [Nat.zero_mul, List.drop_zero] at h0
    have h1 := replicate_all (l := l) (p := p) m (cs.drop l.length) (by rw [List.length_drop, hl, Nat.add_mul]; omega) fun j hj => by
      have := h (j + 1) (by omega)
      rw [List.drop_drop]
      rwa [show l.length + j * l.length = (j + 1) * l.length by rw [Nat.add_mul]; omega]
    have := h0.append h1
    rw [List.take_append_drop] at this
    rw [List.replicate_succ, List.flatten_cons]
    exact this
section
variable {H : Type} {enc : TypeId × Value → H} {P : Program} {w : World} {sp : Nat → Bool} {held : Bool}
theorem row_spot {x : Addr} {v : Value} (h : w.cell? x = some v) : x.spot = none ∧ x.block < w.heap.size := by
  unfold World.cell? at h
  split at h
  · rename_i hh
    split at h
    · cases h
    · rename_i hn
      refine ⟨?_, (Array.getElem?_eq_some_iff.1 hh).1⟩
      cases hs : x.spot with
      | none => rfl
      | some _ => rw [hs] at hn; exact absurd rfl hn
  · cases h
theorem trod_leaves : ∀ (fuel : Nat) (t : TypeId) (cs : List Value) (x : DataW H × List MemPlace), DataW.trod enc P w 0 sp held fuel t cs = some x → ∀ n ls, leaves P n t = some ls → ∀ d, LeafAll (Leaf.says w d) ls cs := by
  intro fuel
  induction fuel with
  | zero => intro t cs x h; simp [DataW.trod] at h
  | succ fuel ih =>
    intro t cs x h n ls hl d
    cases n with
    | zero => cases hl
    | succ n =>
      unfold leaves at hl
      split at hl
      · rename_i k hu
        obtain ⟨z, rfl, _, hw⟩ := DataW.trod_int hu h
        injection hl with hl
        subst hl
        cases d with
        | zero => exact ⟨trivial, trivial⟩
        | succ d => exact ⟨⟨z, rfl, hw⟩, trivial⟩
      · rename_i hu
        obtain ⟨b, rfl, _⟩ := DataW.trod_bool hu h
        injection hl with hl
        subst hl
        cases d with
        | zero => exact ⟨trivial, trivial⟩
        | succ d => exact ⟨⟨b, rfl⟩, trivial⟩
      · rename_i hu
        obtain ⟨s, rfl, _, hs⟩ := DataW.trod_string hu h
        injection hl with hl
        subst hl
        cases d with
        | zero => exact ⟨trivial, trivial⟩
        | succ d => exact ⟨⟨s, rfl, hs⟩, trivial⟩
      · rename_i e hu
        split at hl
        · rename_i le hle
          cases hc : (Nat.blt 0 (P.cellsOf e) && Nat.beq le.length (P.cellsOf e)) with
          | false => rw [hc] at hl; cases hl
          | true =>
            rw [hc] at hl
            injection hl with hl
            subst hl
            rw [Bool.and_eq_true] at hc
            have hpos : 0 < P.cellsOf e := by simpa [Nat.blt_eq] using hc.1
            rcases DataW.trod_slice hu h with ⟨rfl, _⟩ | ⟨a, len, cap, elems, rest, n', hn', rfl, _, _, hlc, hcm, hlen, hel, _, _⟩
            · cases d with
              | zero => exact ⟨trivial, trivial⟩
              | succ d => exact ⟨⟨none, 0, 0, rfl, fun _ => rfl, by decide, [], rfl, fun h => absurd h (by decide), by simp⟩, trivial⟩
            · cases d with
              | zero => exact ⟨trivial, trivial⟩
              | succ d =>
                injection hn' with hn'
                subst hn'
                have each : ∀ i, i < len → ∃ es, w.cells? 0 (a.add (i * P.cellsOf e)) (P.cellsOf e) = some es ∧ LeafAll (Leaf.says w d) le es := by
                  intro i hi
                  have := hel i hi
                  rw [List.getElem?_eq_getElem (by omega), Option.bind_eq_some_iff] at this
                  obtain ⟨es, h1, h2⟩ := this
                  exact ⟨es, h1, ih e es _ h2 n le hle d⟩
                have : ∃ ess : List (List Value), ess.length = len ∧ ∀ i, i < len → w.cells? 0 (a.add (i * P.cellsOf e)) (P.cellsOf e) = some (ess.getD i []) ∧ LeafAll (Leaf.says w d) le (ess.getD i []) := by
                  refine ⟨(List.range len).map fun i => if hi : i < len then (each i hi).choose else [], by simp, fun i hi => ?_⟩
                  rw [List.getD_eq_getElem?_getD, List.getElem?_map, List.getElem?_range hi]
                  simp only [Option.map_some, Option.getD_some, dif_pos hi]
                  exact (each i hi).choose_spec
                obtain ⟨ess, hsl, hs⟩ := this
                refine ⟨⟨some a, len, cap, rfl, (fun h => by cases h), by omega, ess, hsl, fun h0 => ?_, fun es hm => ?_⟩, trivial⟩
                · have cell : ∀ i, i < len → (ess.getD i []).length = P.cellsOf e ∧ ∀ j, j < P.cellsOf e → w.cell? (a.add (i * P.cellsOf e + j)) = (ess.getD i [])[j]? := by
                    intro i hi
                    have h3 := World.cells?_some (hs i hi).1
                    refine ⟨h3.2.1, fun j hj => ?_⟩
                    have := h3.2.2 j hj
                    rwa [Addr.add_add] at this
                  have h00 := (cell 0 h0).2 0 hpos
                  have hlen0 := (cell 0 h0).1
                  rw [List.getElem?_eq_getElem (by omega), Nat.zero_mul, Nat.add_zero, show a.add 0 = a from rfl] at h00
                  have hsp := row_spot h00
                  obtain ⟨b, o, s⟩ := a
                  have hs0 : s = none := hsp.1
                  subst hs0
                  refine ⟨b, o, rfl, hsp.2, fun i hi => ⟨(cell i hi).1, fun j hj => ?_⟩⟩
                  have := (cell i hi).2 j hj
                  rwa [Addr.add_lit] at this
                · obtain ⟨i, hi, rfl⟩ := List.mem_iff_getElem.1 hm
                  have := (hs i (by omega)).2
                  rwa [List.getD_eq_getElem?_getD, List.getElem?_eq_getElem hi] at this
        · cases hl
      · rename_i fs hu
        split at hl
        · rename_i lf hlf
          cases hc : Nat.beq lf.length (P.cellsOf t) with
          | false => rw [hc] at hl; cases hl
          | true =>
            rw [hc] at hl
            injection hl with hl
            subst hl
            have hcl := Nat.eq_of_beq_eq_true hc
            rw [DataW.trod_step] at h
            unfold DataW.trodStep at h
            simp only [hu] at h
            split at h
            · rename_i hlen
              simp only [Option.map_eq_some_iff] at h
              obtain ⟨ys, hys, _⟩ := h
              have := leavesF_all (p := Leaf.says w d) (cs := cs) fs.toList 0 lf hlf (fun f hf l hg => by
                obtain ⟨y, hy⟩ := mapM_each hys f hf
                exact ih f.type _ y hy n l hg d) (by omega)
              simpa using this
            · cases h
        · cases hl
      · rename_i m e hu
        split at hl
        · rename_i le hle
          cases hc : (Nat.beq le.length (P.cellsOf e) && Nat.beq (m * le.length) (P.cellsOf t)) with
          | false => rw [hc] at hl; cases hl
          | true =>
            rw [hc] at hl
            injection hl with hl
            subst hl
            rw [Bool.and_eq_true] at hc
            have h1 := Nat.eq_of_beq_eq_true hc.1
            have h2 := Nat.eq_of_beq_eq_true hc.2
            rw [DataW.trod_step] at h
            unfold DataW.trodStep at h
            simp only [hu] at h
            split at h
            · rename_i hlen
              simp only [Option.map_eq_some_iff] at h
              obtain ⟨ys, hys, _⟩ := h
              refine replicate_all m cs (by omega) fun j hj => ?_
              obtain ⟨y, hy⟩ := mapM_each hys j (List.mem_range.2 hj)
              rw [← h1] at hy
              exact ih e _ y hy n le hle d
            · cases h
        · cases hl
      · cases hl
/-- The cells of an argument. -/
theorem open_leaves {t : TypeId} {v : Value} {dd : DataW H} {ps : List MemPlace} (h : DataW.Trod enc P w 0 sp held t v dd ps) (n : Nat) {ls : List Leaf} (hl : leaves P n t = some ls) (d : Nat) : LeafAll (Leaf.says w d) ls v.cells.toList := by
  obtain ⟨fuel, hf⟩ := h
  exact trod_leaves fuel t _ _ hf n ls hl d
end
/-- An argument that is a struct or an array is an aggregate. -/
theorem okWide_agg {P : Program} {w : World} {r : Reach} {b0 : Nat} {t : TypeId} {v : Value} (h : Value.okWide P w r b0 t v) (ha : (match P.underlying t with | some (.struct _) => true | some (.array _ _) => true | _ => false) = true) : ∃ cs, v = .agg cs := by
  unfold Value.okWide at h
  split at h
  · exact ⟨_, h.choose_spec.1⟩
  · exact ⟨_, h.choose_spec.1⟩
  · rename_i h1 h2
    split at ha
    · rename_i fs hu; exact absurd hu (h1 fs)
    · rename_i m e hu; exact absurd hu (h2 m e)
    · cases ha
end Go.Sx
/- Chapter 35: four laws for every run. -/
set_option linter.unusedVariables false
set_option linter.unusedSimpArgs false
set_option maxRecDepth 8000
set_option maxHeartbeats 1000000
namespace Go.Proofs.Ytmdgaifonpgojaa
open Go.Sx Go.RowKit
theorem spilelaw35_RunBalances_big (x0_0 : Int) (x0_1 : Int) (x0_2 : Int) (x0_3 : Int) (x0_4 : Int) (x0_5 : Int) (A0_6 : Option Addr) (c0_6 : Nat) (l0_6 : List Cut) (x1 : Int) (w : World) (hl_l0_6 : RdRow w A0_6 l0_6.length 3 (elC l0_6)) (hbig : 17 < l0_6.length) : Calls Try.prog 3 #[.agg #[I x0_0, I x0_1, I x0_2, I x0_3, I x0_4, I x0_5, .slice A0_6 l0_6.length c0_6], I x1] w fun e w' => e = .returned (.bool true) ∧ Below w.heap.size w w' := by
  refine enterPlain tfine Try.func3 rfl 103 Try.ntmps3 [.agg [.k (I x0_0), .k (I x0_1), .k (I x0_2), .k (I x0_3), .k (I x0_4), .k (I x0_5), .inp 1000 A0_6 l0_6.length c0_6], .c (.k (I x1))] [⟨1000, A0_6, 3, l0_6.length, elC l0_6⟩] rfl rfl ⟨hl_l0_6, trivial⟩ ⟨⟨trivial, trivial, trivial, trivial, trivial, trivial, .inl ⟨rfl, rfl, rfl⟩, trivial⟩, trivial, trivial⟩ ?_
  refine G.seqR tfine rfl ?_ ?_
  · first | trivial | (simp [AllP, condB]; done) | (simp only [AllP]; and_intros <;> first | trivial | decide | omega) | (simp [AllP, condB]; intros; and_intros <;> first | assumption | omega) | (simp [AllP, condB]; intros; simp_all; done) | (simp [AllP, condB]; intros; simp_all; omega) | (simp [AllP, condB]; omega)
  refine G.seq ?_
  refine G.seqC tfine rfl ?_ ?_
  · first | trivial | (simp [AllP, condB]; done) | (simp only [AllP]; and_intros <;> first | trivial | decide | omega) | (simp [AllP, condB]; intros; and_intros <;> first | assumption | omega) | (simp [AllP, condB]; intros; simp_all; done) | (simp [AllP, condB]; intros; simp_all; omega) | (simp [AllP, condB]; omega)
  refine GO.callPlain (v := .bool true)  rfl rfl rfl rfl (fun args w => Try.call10 args w) (fun ρ w hs hok => awake_any w) ?_
  refine GO.fin tfine rfl ?_ ?_
  · first | trivial | (simp [AllP, condB]; done) | (simp only [AllP]; and_intros <;> first | trivial | decide | omega) | (simp [AllP, condB]; intros; and_intros <;> first | assumption | omega) | (simp [AllP, condB]; intros; simp_all; done) | (simp [AllP, condB]; intros; simp_all; omega) | (simp [AllP, condB]; omega)
  refine G.cond_false rfl ?_
  refine G.skip ?_
  refine G.seq ?_
  refine G.seqC tfine rfl ?_ ?_
  · first | trivial | (simp [AllP, condB]; done) | (simp only [AllP]; and_intros <;> first | trivial | decide | omega) | (simp [AllP, condB]; intros; and_intros <;> first | assumption | omega) | (simp [AllP, condB]; intros; simp_all; done) | (simp [AllP, condB]; intros; simp_all; omega) | (simp [AllP, condB]; omega)
  refine GO.callPlain (v := .bool (spileref35_Few x0_0 x0_1 x0_2 x0_3 x0_4 x0_5 l0_6))  rfl rfl rfl rfl (fun args w => Try.call11 args w) (fun ρ w hs hok => spileref35_Few_any _ _ _ _ _ _ A0_6 c0_6 l0_6 w (hs.row (cap := c0_6) rfl (hok _ List.mem_cons_self _ (List.mem_cons_of_mem _ (List.mem_cons_of_mem _ (List.mem_cons_of_mem _ (List.mem_cons_of_mem _ (List.mem_cons_of_mem _ (List.mem_cons_of_mem _ List.mem_cons_self))))))))) ?_
  refine GO.fin tfine rfl ?_ ?_
  · first | trivial | (simp [AllP, condB]; done) | (simp only [AllP]; and_intros <;> first | trivial | decide | omega) | (simp [AllP, condB]; intros; and_intros <;> first | assumption | omega) | (simp [AllP, condB]; intros; simp_all; done) | (simp [AllP, condB]; intros; simp_all; omega) | (simp [AllP, condB]; omega)
  refine G.cond (b := !(spileref35_Few x0_0 x0_1 x0_2 x0_3 x0_4 x0_5 l0_6)) rfl (fun h1 => ?_) (fun h1 => ?_)
  · refine G.seqR tfine rfl trivial ?_
    exact G.ret (endK.ret rfl rfl)
  · have h9 := of_decide_eq_true (show decide ((l0_6.length : Int) ≤ 17) = true from by simpa [spileref35_Few] using h1)
    omega

theorem spilelaw35_RunWider_big (x0_0 : Int) (x0_1 : Int) (x0_2 : Int) (x0_3 : Int) (x0_4 : Int) (x0_5 : Int) (A0_6 : Option Addr) (c0_6 : Nat) (l0_6 : List Cut) (x1 : Int) (x2 : Int) (w : World) (hl_l0_6 : RdRow w A0_6 l0_6.length 3 (elC l0_6)) (hbig : 17 < l0_6.length) : Calls Try.prog 4 #[.agg #[I x0_0, I x0_1, I x0_2, I x0_3, I x0_4, I x0_5, .slice A0_6 l0_6.length c0_6], I x1, I x2] w fun e w' => e = .returned (.bool true) ∧ Below w.heap.size w w' := by
  refine enterPlain tfine Try.func4 rfl 82 Try.ntmps4 [.agg [.k (I x0_0), .k (I x0_1), .k (I x0_2), .k (I x0_3), .k (I x0_4), .k (I x0_5), .inp 1000 A0_6 l0_6.length c0_6], .c (.k (I x1)), .c (.k (I x2))] [⟨1000, A0_6, 3, l0_6.length, elC l0_6⟩] rfl rfl ⟨hl_l0_6, trivial⟩ ⟨⟨trivial, trivial, trivial, trivial, trivial, trivial, .inl ⟨rfl, rfl, rfl⟩, trivial⟩, trivial, trivial, trivial⟩ ?_
  refine G.seqR tfine rfl ?_ ?_
  · first | trivial | (simp [AllP, condB]; done) | (simp only [AllP]; and_intros <;> first | trivial | decide | omega) | (simp [AllP, condB]; intros; and_intros <;> first | assumption | omega) | (simp [AllP, condB]; intros; simp_all; done) | (simp [AllP, condB]; intros; simp_all; omega) | (simp [AllP, condB]; omega)
  refine G.seq ?_
  refine G.seqC tfine rfl ?_ ?_
  · first | trivial | (simp [AllP, condB]; done) | (simp only [AllP]; and_intros <;> first | trivial | decide | omega) | (simp [AllP, condB]; intros; and_intros <;> first | assumption | omega) | (simp [AllP, condB]; intros; simp_all; done) | (simp [AllP, condB]; intros; simp_all; omega) | (simp [AllP, condB]; omega)
  refine GO.callPlain (v := .bool true)  rfl rfl rfl rfl (fun args w => Try.call10 args w) (fun ρ w hs hok => awake_any w) ?_
  refine GO.fin tfine rfl ?_ ?_
  · first | trivial | (simp [AllP, condB]; done) | (simp only [AllP]; and_intros <;> first | trivial | decide | omega) | (simp [AllP, condB]; intros; and_intros <;> first | assumption | omega) | (simp [AllP, condB]; intros; simp_all; done) | (simp [AllP, condB]; intros; simp_all; omega) | (simp [AllP, condB]; omega)
  refine G.cond_false rfl ?_
  refine G.skip ?_
  refine G.seq ?_
  refine G.seqC tfine rfl ?_ ?_
  · first | trivial | (simp [AllP, condB]; done) | (simp only [AllP]; and_intros <;> first | trivial | decide | omega) | (simp [AllP, condB]; intros; and_intros <;> first | assumption | omega) | (simp [AllP, condB]; intros; simp_all; done) | (simp [AllP, condB]; intros; simp_all; omega) | (simp [AllP, condB]; omega)
  refine GO.callPlain (v := .bool (spileref35_Few x0_0 x0_1 x0_2 x0_3 x0_4 x0_5 l0_6))  rfl rfl rfl rfl (fun args w => Try.call11 args w) (fun ρ w hs hok => spileref35_Few_any _ _ _ _ _ _ A0_6 c0_6 l0_6 w (hs.row (cap := c0_6) rfl (hok _ List.mem_cons_self _ (List.mem_cons_of_mem _ (List.mem_cons_of_mem _ (List.mem_cons_of_mem _ (List.mem_cons_of_mem _ (List.mem_cons_of_mem _ (List.mem_cons_of_mem _ List.mem_cons_self))))))))) ?_
  refine GO.fin tfine rfl ?_ ?_
  · first | trivial | (simp [AllP, condB]; done) | (simp only [AllP]; and_intros <;> first | trivial | decide | omega) | (simp [AllP, condB]; intros; and_intros <;> first | assumption | omega) | (simp [AllP, condB]; intros; simp_all; done) | (simp [AllP, condB]; intros; simp_all; omega) | (simp [AllP, condB]; omega)
  refine G.cond (b := !(spileref35_Few x0_0 x0_1 x0_2 x0_3 x0_4 x0_5 l0_6)) rfl (fun h1 => ?_) (fun h1 => ?_)
  · refine G.seqR tfine rfl trivial ?_
    exact G.ret (endK.ret rfl rfl)
  · have h9 := of_decide_eq_true (show decide ((l0_6.length : Int) ≤ 17) = true from by simpa [spileref35_Few] using h1)
    omega

theorem spilelaw35_RunSums_big (x0_0 : Int) (x0_1 : Int) (x0_2 : Int) (x0_3 : Int) (x0_4 : Int) (x0_5 : Int) (A0_6 : Option Addr) (c0_6 : Nat) (l0_6 : List Cut) (x1 : Int) (w : World) (hl_l0_6 : RdRow w A0_6 l0_6.length 3 (elC l0_6)) (hbig : 17 < l0_6.length) : Calls Try.prog 5 #[.agg #[I x0_0, I x0_1, I x0_2, I x0_3, I x0_4, I x0_5, .slice A0_6 l0_6.length c0_6], I x1] w fun e w' => e = .returned (.bool true) ∧ Below w.heap.size w w' := by
  refine enterPlain tfine Try.func5 rfl 86 Try.ntmps5 [.agg [.k (I x0_0), .k (I x0_1), .k (I x0_2), .k (I x0_3), .k (I x0_4), .k (I x0_5), .inp 1000 A0_6 l0_6.length c0_6], .c (.k (I x1))] [⟨1000, A0_6, 3, l0_6.length, elC l0_6⟩] rfl rfl ⟨hl_l0_6, trivial⟩ ⟨⟨trivial, trivial, trivial, trivial, trivial, trivial, .inl ⟨rfl, rfl, rfl⟩, trivial⟩, trivial, trivial⟩ ?_
  refine G.seqR tfine rfl ?_ ?_
  · first | trivial | (simp [AllP, condB]; done) | (simp only [AllP]; and_intros <;> first | trivial | decide | omega) | (simp [AllP, condB]; intros; and_intros <;> first | assumption | omega) | (simp [AllP, condB]; intros; simp_all; done) | (simp [AllP, condB]; intros; simp_all; omega) | (simp [AllP, condB]; omega)
  refine G.seq ?_
  refine G.seqC tfine rfl ?_ ?_
  · first | trivial | (simp [AllP, condB]; done) | (simp only [AllP]; and_intros <;> first | trivial | decide | omega) | (simp [AllP, condB]; intros; and_intros <;> first | assumption | omega) | (simp [AllP, condB]; intros; simp_all; done) | (simp [AllP, condB]; intros; simp_all; omega) | (simp [AllP, condB]; omega)
  refine GO.callPlain (v := .bool true)  rfl rfl rfl rfl (fun args w => Try.call10 args w) (fun ρ w hs hok => awake_any w) ?_
  refine GO.fin tfine rfl ?_ ?_
  · first | trivial | (simp [AllP, condB]; done) | (simp only [AllP]; and_intros <;> first | trivial | decide | omega) | (simp [AllP, condB]; intros; and_intros <;> first | assumption | omega) | (simp [AllP, condB]; intros; simp_all; done) | (simp [AllP, condB]; intros; simp_all; omega) | (simp [AllP, condB]; omega)
  refine G.cond_false rfl ?_
  refine G.skip ?_
  refine G.seq ?_
  refine G.seqC tfine rfl ?_ ?_
  · first | trivial | (simp [AllP, condB]; done) | (simp only [AllP]; and_intros <;> first | trivial | decide | omega) | (simp [AllP, condB]; intros; and_intros <;> first | assumption | omega) | (simp [AllP, condB]; intros; simp_all; done) | (simp [AllP, condB]; intros; simp_all; omega) | (simp [AllP, condB]; omega)
  refine GO.callPlain (v := .bool (spileref35_Few x0_0 x0_1 x0_2 x0_3 x0_4 x0_5 l0_6))  rfl rfl rfl rfl (fun args w => Try.call11 args w) (fun ρ w hs hok => spileref35_Few_any _ _ _ _ _ _ A0_6 c0_6 l0_6 w (hs.row (cap := c0_6) rfl (hok _ List.mem_cons_self _ (List.mem_cons_of_mem _ (List.mem_cons_of_mem _ (List.mem_cons_of_mem _ (List.mem_cons_of_mem _ (List.mem_cons_of_mem _ (List.mem_cons_of_mem _ List.mem_cons_self))))))))) ?_
  refine GO.fin tfine rfl ?_ ?_
  · first | trivial | (simp [AllP, condB]; done) | (simp only [AllP]; and_intros <;> first | trivial | decide | omega) | (simp [AllP, condB]; intros; and_intros <;> first | assumption | omega) | (simp [AllP, condB]; intros; simp_all; done) | (simp [AllP, condB]; intros; simp_all; omega) | (simp [AllP, condB]; omega)
  refine G.cond (b := !(spileref35_Few x0_0 x0_1 x0_2 x0_3 x0_4 x0_5 l0_6)) rfl (fun h1 => ?_) (fun h1 => ?_)
  · refine G.seqR tfine rfl trivial ?_
    exact G.ret (endK.ret rfl rfl)
  · have h9 := of_decide_eq_true (show decide ((l0_6.length : Int) ≤ 17) = true from by simpa [spileref35_Few] using h1)
    omega

theorem spilelaw35_RunCloses_big (x0_0 : Int) (x0_1 : Int) (x0_2 : Int) (x0_3 : Int) (x0_4 : Int) (x0_5 : Int) (A0_6 : Option Addr) (c0_6 : Nat) (l0_6 : List Cut) (w : World) (hl_l0_6 : RdRow w A0_6 l0_6.length 3 (elC l0_6)) (hbig : 17 < l0_6.length) : Calls Try.prog 6 #[.agg #[I x0_0, I x0_1, I x0_2, I x0_3, I x0_4, I x0_5, .slice A0_6 l0_6.length c0_6]] w fun e w' => e = .returned (.bool true) ∧ Below w.heap.size w w' := by
  refine enterPlain tfine Try.func6 rfl 74 Try.ntmps6 [.agg [.k (I x0_0), .k (I x0_1), .k (I x0_2), .k (I x0_3), .k (I x0_4), .k (I x0_5), .inp 1000 A0_6 l0_6.length c0_6]] [⟨1000, A0_6, 3, l0_6.length, elC l0_6⟩] rfl rfl ⟨hl_l0_6, trivial⟩ ⟨⟨trivial, trivial, trivial, trivial, trivial, trivial, .inl ⟨rfl, rfl, rfl⟩, trivial⟩, trivial⟩ ?_
  refine G.seqR tfine rfl ?_ ?_
  · first | trivial | (simp [AllP, condB]; done) | (simp only [AllP]; and_intros <;> first | trivial | decide | omega) | (simp [AllP, condB]; intros; and_intros <;> first | assumption | omega) | (simp [AllP, condB]; intros; simp_all; done) | (simp [AllP, condB]; intros; simp_all; omega) | (simp [AllP, condB]; omega)
  refine G.seq ?_
  refine G.seqC tfine rfl ?_ ?_
  · first | trivial | (simp [AllP, condB]; done) | (simp only [AllP]; and_intros <;> first | trivial | decide | omega) | (simp [AllP, condB]; intros; and_intros <;> first | assumption | omega) | (simp [AllP, condB]; intros; simp_all; done) | (simp [AllP, condB]; intros; simp_all; omega) | (simp [AllP, condB]; omega)
  refine GO.callPlain (v := .bool true)  rfl rfl rfl rfl (fun args w => Try.call10 args w) (fun ρ w hs hok => awake_any w) ?_
  refine GO.fin tfine rfl ?_ ?_
  · first | trivial | (simp [AllP, condB]; done) | (simp only [AllP]; and_intros <;> first | trivial | decide | omega) | (simp [AllP, condB]; intros; and_intros <;> first | assumption | omega) | (simp [AllP, condB]; intros; simp_all; done) | (simp [AllP, condB]; intros; simp_all; omega) | (simp [AllP, condB]; omega)
  refine G.cond_false rfl ?_
  refine G.skip ?_
  refine G.seq ?_
  refine G.seqC tfine rfl ?_ ?_
  · first | trivial | (simp [AllP, condB]; done) | (simp only [AllP]; and_intros <;> first | trivial | decide | omega) | (simp [AllP, condB]; intros; and_intros <;> first | assumption | omega) | (simp [AllP, condB]; intros; simp_all; done) | (simp [AllP, condB]; intros; simp_all; omega) | (simp [AllP, condB]; omega)
  refine GO.callPlain (v := .bool (spileref35_Few x0_0 x0_1 x0_2 x0_3 x0_4 x0_5 l0_6))  rfl rfl rfl rfl (fun args w => Try.call11 args w) (fun ρ w hs hok => spileref35_Few_any _ _ _ _ _ _ A0_6 c0_6 l0_6 w (hs.row (cap := c0_6) rfl (hok _ List.mem_cons_self _ (List.mem_cons_of_mem _ (List.mem_cons_of_mem _ (List.mem_cons_of_mem _ (List.mem_cons_of_mem _ (List.mem_cons_of_mem _ (List.mem_cons_of_mem _ List.mem_cons_self))))))))) ?_
  refine GO.fin tfine rfl ?_ ?_
  · first | trivial | (simp [AllP, condB]; done) | (simp only [AllP]; and_intros <;> first | trivial | decide | omega) | (simp [AllP, condB]; intros; and_intros <;> first | assumption | omega) | (simp [AllP, condB]; intros; simp_all; done) | (simp [AllP, condB]; intros; simp_all; omega) | (simp [AllP, condB]; omega)
  refine G.cond (b := !(spileref35_Few x0_0 x0_1 x0_2 x0_3 x0_4 x0_5 l0_6)) rfl (fun h1 => ?_) (fun h1 => ?_)
  · refine G.seqR tfine rfl trivial ?_
    exact G.ret (endK.ret rfl rfl)
  · have h9 := of_decide_eq_true (show decide ((l0_6.length : Int) ≤ 17) = true from by simpa [spileref35_Few] using h1)
    omega
theorem kinds_all {l : List Cut} (hk : ∀ i, i < l.length → 1 ≤ (l.getD i cut0).k ∧ (l.getD i cut0).k ≤ 4) (k : Nat) (h : k ≤ l.length) :
    (psum (l.take k) (kindB 0)).1 = (kf (l.take k) 1).1 + (kf (l.take k) 2).1 + (kf (l.take k) 3).1 + (kf (l.take k) 4).1 ∧ (psum (l.take k) (kindB 0)).2 = (kf (l.take k) 1).2 + (kf (l.take k) 2).2 + (kf (l.take k) 3).2 + (kf (l.take k) 4).2 := by
  induction k with
  | zero => exact ⟨rfl, rfl⟩
  | succ k ih =>
    have ih := ih (by omega)
    have hi := hk k (by omega)
    unfold kf at ih ⊢
    rw [psum_succ l _ k (by omega), psum_succ l _ k (by omega), psum_succ l _ k (by omega), psum_succ l _ k (by omega), psum_succ l _ k (by omega)]
    generalize psum (l.take k) (kindB 0) = s0 at ih ⊢
    generalize psum (l.take k) (qk ((1 : Nat) : Int)) = s1 at ih ⊢
    generalize psum (l.take k) (qk ((2 : Nat) : Int)) = s2 at ih ⊢
    generalize psum (l.take k) (qk ((3 : Nat) : Int)) = s3 at ih ⊢
    generalize psum (l.take k) (qk ((4 : Nat) : Int)) = s4 at ih ⊢
    generalize l.getD k cut0 = x at hi ⊢
    obtain ⟨xk, xa, xm⟩ := x
    simp only at hi
    rcases (show xk = 1 ∨ xk = 2 ∨ xk = 3 ∨ xk = 4 by omega) with rfl | rfl | rfl | rfl <;> simp [plus, kindB, qk] <;> omega
theorem all_kinds {id day al ma fa fm : Int} {l : List Cut} (ok : OkRun id day al ma fa fm l) : (psum l (kindB 0)).1 = (kf l 1).1 + (kf l 2).1 + (kf l 3).1 + (kf l 4).1 ∧ (psum l (kindB 0)).2 = (kf l 1).2 + (kf l 2).2 + (kf l 3).2 + (kf l 4).2 := by
  have := kinds_all (fun i hi => (ok.cut i hi).2) l.length (Nat.le_refl _)
  rwa [List.take_length] at this
theorem sums_law (id day al ma fa fm : Int) (l : List Cut) (x : Int) : spilelaw35_RunSums id day al ma fa fm l x = true := by simp [spilelaw35_RunSums]
theorem balances_law (id day al ma fa fm : Int) (l : List Cut) (x : Int) : spilelaw35_RunBalances id day al ma fa fm l x = true := by simp [spilelaw35_RunBalances]
theorem wider_law (id day al ma fa fm : Int) (l : List Cut) (x y : Int) : spilelaw35_RunWider id day al ma fa fm l x y = true := by
  unfold spilelaw35_RunWider
  split
  · rfl
  by_cases h1 : okB id day al ma fa fm l = true
  · have e : ∀ to, cloM id day al ma fa fm l to = (false, 1) := fun to => by rw [cloM, if_pos h1]
    rw [e x, if_pos (by decide)]
    rfl
  by_cases h2 : (decide (x < 0) || decide (x > 1000000)) = true
  · have e : cloM id day al ma fa fm l x = (false, 2) := by rw [cloM, if_neg h1, if_pos h2]
    rw [e, if_pos (by decide)]
    rfl
  have hx : 0 ≤ x ∧ x ≤ 1000000 := by simp at h2; omega
  have e : ∀ to, 0 ≤ to → to ≤ 1000000 → cloM id day al ma fa fm l to = (decide ((al + fa - (psum l (kindB 0)).1).natAbs * 1000000 ≤ (al + fa).toNat * to.toNat) && decide ((ma + fm - (psum l (kindB 0)).2).natAbs * 1000000 ≤ (ma + fm).toNat * to.toNat), 0) := by
    intro to h3 h4
    rw [cloM, if_neg h1, if_neg (by simp; omega)]
  have eb : balM id day al ma fa fm l = (al + fa - (psum l (kindB 0)).1, ma + fm - (psum l (kindB 0)).2, 0) := by rw [balM, if_neg h1]
  obtain ⟨z, hz⟩ : ∃ z, z = (if (if (1000000 : Int) < y then (1000000 : Int) else y) > x then (if (1000000 : Int) < y then (1000000 : Int) else y) else x) := ⟨_, rfl⟩
  rw [← hz]
  have hz2 : x ≤ z ∧ z ≤ 1000000 := by
    rw [hz]
    split <;> split at * <;> omega
  rw [e x hx.1 hx.2, e z (by omega) hz2.2, e 0 (by decide) (by decide), eb]
  generalize al + fa - (psum l (kindB 0)).1 = p
  generalize ma + fm - (psum l (kindB 0)).2 = q
  have m1 : (al + fa).toNat * x.toNat ≤ (al + fa).toNat * z.toNat := Nat.mul_le_mul_left _ (by omega)
  have m2 : (ma + fm).toNat * x.toNat ≤ (ma + fm).toNat * z.toNat := Nat.mul_le_mul_left _ (by omega)
  generalize (al + fa).toNat * x.toNat = u1 at m1 ⊢
  generalize (al + fa).toNat * z.toNat = u2 at m1 ⊢
  generalize (ma + fm).toNat * x.toNat = v1 at m2 ⊢
  generalize (ma + fm).toNat * z.toNat = v2 at m2 ⊢
  rw [if_neg (by simp)]
  rw [Bool.eq_iff_iff]
  simp
  constructor
  · omega
  · rw [Bool.eq_iff_iff]
    simp
    omega
theorem closes_law (id day al ma fa fm : Int) (l : List Cut) (hm : l.length ≤ 17) : spilelaw35_RunCloses id day al ma fa fm l = true := by
  unfold spilelaw35_RunCloses
  split
  · rfl
  by_cases h1 : okB id day al ma fa fm l = true
  · have eb : balM id day al ma fa fm l = (0, 0, 1) := by rw [balM, if_pos h1]
    rw [eb, if_pos (by decide)]
    rfl
  have ok := okB_run (Bool.not_eq_true _ ▸ h1)
  have eb : balM id day al ma fa fm l = (al + fa - (psum l (kindB 0)).1, ma + fm - (psum l (kindB 0)).2, 0) := by rw [balM, if_neg h1]
  have es : ∀ kd : Int, 1 ≤ kd → kd ≤ 4 → sumM id day al ma fa fm l kd = ((kf l kd.toNat).1, (kf l kd.toNat).2, 0) := by
    intro kd h2 h3
    rw [sumM, if_neg h1, if_neg (by simp; omega)]
  rw [eb, es 1 (by decide) (by decide), es 2 (by decide) (by decide), es 3 (by decide) (by decide), es 4 (by decide) (by decide)]
  have k := all_kinds ok
  have b1 := kf_bound ok.inl hm 1
  have b2 := kf_bound ok.inl hm 2
  have b3 := kf_bound ok.inl hm 3
  have b4 := kf_bound ok.inl hm 4
  have l2 := ok.lim2
  unfold inR at l2
  rw [show (1 : Int).toNat = 1 from rfl, show (2 : Int).toNat = 2 from rfl, show (3 : Int).toNat = 3 from rfl, show (4 : Int).toNat = 4 from rfl]
  generalize psum l (kindB 0) = s at k ⊢
  generalize kf l 1 = s1 at *
  generalize kf l 2 = s2 at *
  generalize kf l 3 = s3 at *
  generalize kf l 4 = s4 at *
  have nn : ∀ f : Fl, 0 ≤ f.1 → 0 ≤ f.2 → ¬ ((((0 : Int) != 0) || decide (f.1 < 0)) || decide (f.2 < 0)) = true := by
    intro f h2 h3
    simp
    omega
  dsimp only
  rw [if_neg (by decide), if_neg (nn s1 b1.1.1 b1.2.1), if_neg (nn s2 b2.1.1 b2.2.1), if_neg (nn s3 b3.1.1 b3.2.1), if_neg (nn s4 b4.1.1 b4.2.1)]
  rw [wrapA (x := al + fa - s.1 + s1.1) (by omega), wrapA (x := al + fa - s.1 + s1.1 + s2.1) (by omega), wrapA (x := al + fa - s.1 + s1.1 + s2.1 + s3.1) (by omega), wrapA (x := al + fa - s.1 + s1.1 + s2.1 + s3.1 + s4.1) (by omega), wrapA (x := al + fa) (by omega)]
  rw [wrapA (x := ma + fm - s.2 + s1.2) (by omega), wrapA (x := ma + fm - s.2 + s1.2 + s2.2) (by omega), wrapA (x := ma + fm - s.2 + s1.2 + s2.2 + s3.2) (by omega), wrapA (x := ma + fm - s.2 + s1.2 + s2.2 + s3.2 + s4.2) (by omega), wrapA (x := ma + fm) (by omega)]
  simp
  omega
theorem pick_list {α β : Type} [Inhabited β] {p : β → α → Prop} {l : List α} (h : ∀ x ∈ l, ∃ y, p y x) : ∃ m : List β, m.length = l.length ∧ ∀ i (hi : i < l.length), p (m.getD i default) l[i] := by
  induction l with
  | nil => exact ⟨[], rfl, fun i hi => absurd hi (Nat.not_lt_zero i)⟩
  | cons a r ih =>
    obtain ⟨y, hy⟩ := h a (by simp)
    obtain ⟨m, h1, h2⟩ := ih fun x hx => h x (by simp [hx])
    refine ⟨y :: m, by simp [h1], fun i hi => ?_⟩
    cases i with
    | zero => exact hy
    | succ i => exact h2 i (by simpa using hi)
instance : Inhabited Cut := ⟨cut0⟩
theorem rowC {w : World} {A : Option Addr} {ess : List (List Value)} {d : Nat} (hr : RdRow w A ess.length 3 (fun i => ess.getD i [])) (hw : ∀ es ∈ ess, LeafAll (Leaf.says w (d + 1)) [.int .i64, .int .i64, .int .i64] es) :
    ∃ l : List Cut, l.length = ess.length ∧ RdRow w A l.length 3 (elC l) := by
  obtain ⟨l, h1, h2⟩ := pick_list (p := fun (x : Cut) es => es = [I x.k, I x.a, I x.m]) (l := ess) fun es he => by
    obtain ⟨_, _, rfl, ⟨a0, rfl, _⟩, e0⟩ := (hw es he).cons
    obtain ⟨_, _, rfl, ⟨a1, rfl, _⟩, e1⟩ := e0.cons
    obtain ⟨_, _, rfl, ⟨a2, rfl, _⟩, e2⟩ := e1.cons
    obtain rfl := e2.nil
    exact ⟨⟨a0, a1, a2⟩, rfl⟩
  refine ⟨l, h1, ?_⟩
  rw [h1]
  refine hr.congr fun i hi => ?_
  rw [List.getD_eq_getElem?_getD, List.getElem?_eq_getElem hi]
  exact (h2 i hi).symm
theorem RunBalances_row (id day al ma fa fm : Int) (A : Option Addr) (c : Nat) (ess : List (List Value)) (x1 : Int) (w : World) (hr : RdRow w A ess.length 3 (fun i => ess.getD i [])) (hn : A = none → ess.length = 0) (hm : ess.length ≤ maxLen) (hw : ∀ es ∈ ess, LeafAll (Leaf.says w 3) [.int .i64, .int .i64, .int .i64] es) :
    Calls Try.prog 3 #[.agg #[I id, I day, I al, I ma, I fa, I fm, .slice A ess.length c], I x1] w fun e w' => e = .returned (.bool true) ∧ Below w.heap.size w w' := by
  obtain ⟨l, h1, h2⟩ := rowC hr hw
  rw [← h1] at hn hm ⊢
  by_cases h : l.length ≤ 17
  · have := spilelaw35_RunBalances_any id day al ma fa fm A c l x1 w h2 h hn
    rw [balances_law id day al ma fa fm l x1] at this
    exact this
  · exact spilelaw35_RunBalances_big id day al ma fa fm A c l x1 w h2 (by omega)
theorem RunWider_row (id day al ma fa fm : Int) (A : Option Addr) (c : Nat) (ess : List (List Value)) (x1 : Int) (x2 : Int) (w : World) (hr : RdRow w A ess.length 3 (fun i => ess.getD i [])) (hn : A = none → ess.length = 0) (hm : ess.length ≤ maxLen) (hw : ∀ es ∈ ess, LeafAll (Leaf.says w 3) [.int .i64, .int .i64, .int .i64] es) :
    Calls Try.prog 4 #[.agg #[I id, I day, I al, I ma, I fa, I fm, .slice A ess.length c], I x1, I x2] w fun e w' => e = .returned (.bool true) ∧ Below w.heap.size w w' := by
  obtain ⟨l, h1, h2⟩ := rowC hr hw
  rw [← h1] at hn hm ⊢
  by_cases h : l.length ≤ 17
  · have := spilelaw35_RunWider_any id day al ma fa fm A c l x1 x2 w h2 h hn
    rw [wider_law id day al ma fa fm l x1 x2] at this
    exact this
  · exact spilelaw35_RunWider_big id day al ma fa fm A c l x1 x2 w h2 (by omega)
theorem RunSums_row (id day al ma fa fm : Int) (A : Option Addr) (c : Nat) (ess : List (List Value)) (x1 : Int) (w : World) (hr : RdRow w A ess.length 3 (fun i => ess.getD i [])) (hn : A = none → ess.length = 0) (hm : ess.length ≤ maxLen) (hw : ∀ es ∈ ess, LeafAll (Leaf.says w 3) [.int .i64, .int .i64, .int .i64] es) :
    Calls Try.prog 5 #[.agg #[I id, I day, I al, I ma, I fa, I fm, .slice A ess.length c], I x1] w fun e w' => e = .returned (.bool true) ∧ Below w.heap.size w w' := by
  obtain ⟨l, h1, h2⟩ := rowC hr hw
  rw [← h1] at hn hm ⊢
  by_cases h : l.length ≤ 17
  · have := spilelaw35_RunSums_any id day al ma fa fm A c l x1 w h2 h hn
    rw [sums_law id day al ma fa fm l x1] at this
    exact this
  · exact spilelaw35_RunSums_big id day al ma fa fm A c l x1 w h2 (by omega)
theorem RunCloses_row (id day al ma fa fm : Int) (A : Option Addr) (c : Nat) (ess : List (List Value)) (w : World) (hr : RdRow w A ess.length 3 (fun i => ess.getD i [])) (hn : A = none → ess.length = 0) (hm : ess.length ≤ maxLen) (hw : ∀ es ∈ ess, LeafAll (Leaf.says w 3) [.int .i64, .int .i64, .int .i64] es) :
    Calls Try.prog 6 #[.agg #[I id, I day, I al, I ma, I fa, I fm, .slice A ess.length c]] w fun e w' => e = .returned (.bool true) ∧ Below w.heap.size w w' := by
  obtain ⟨l, h1, h2⟩ := rowC hr hw
  rw [← h1] at hn hm ⊢
  by_cases h : l.length ≤ 17
  · have := spilelaw35_RunCloses_any id day al ma fa fm A c l  w h2 h hn
    rw [closes_law id day al ma fa fm l h] at this
    exact this
  · exact spilelaw35_RunCloses_big id day al ma fa fm A c l  w h2 (by omega)
end Go.Proofs.Ytmdgaifonpgojaa
/- The symbolic executor, part AC: closures that read and turn captured blocks of any kind (variables, rows of ours), and calls of them. Generic over P. -/
set_option linter.unusedVariables false
set_option linter.unusedSimpArgs false
namespace Go.Sx
open Go.RowKit
/-- A captured block: its name, where it lies, what is said of it. -/
structure Bw where
  x : Nat
  g : Nat
  b : Blk
def bwV (l : List Inp) (C : List Bw) (x : Nat) : Nat × Nat := match C with
  | [] => inpsV l x
  | b :: r => bif Nat.beq x b.x then (b.g, 0) else bwV l r x
def bwM (l : List Inp) (C : List Bw) (x : Nat) : Option Blk := match C with
  | [] => lkM (inpsM l) x
  | b :: r => bif Nat.beq x b.x then some b.b else bwM l r x
def bwIn (C : List Bw) (x : Nat) : Prop := match C with
  | [] => False
  | b :: r => x = b.x ∨ bwIn r x
def allCapBw (C : List Bw) : List Cap → Prop
  | [] => True
  | .own x _ :: r => bwIn C x ∧ allCapBw C r
  | .val _ :: r => allCapBw C r
def AC.bw (l : List Inp) (C : List Bw) : AC → Prop
  | .k _ => True
  | .inp x A len _ => inpIn l x A len
  | .ptr x _ _ _ => bwIn C x
  | .slc x _ _ _ _ => bwIn C x
  | .fn _ caps => allCapBw C caps
  | .row .. => False
def allACb (l : List Inp) (C : List Bw) : List AC → Prop
  | [] => True
  | a :: r => a.bw l C ∧ allACb l C r
def AV.bw (l : List Inp) (C : List Bw) : AV → Prop
  | .c a => a.bw l C
  | .agg cs => allACb l C cs
def allAVb (l : List Inp) (C : List Bw) : List AV → Prop
  | [] => True
  | a :: r => a.bw l C ∧ allAVb l C r
def allBw (p : Bw → Prop) : List Bw → Prop
  | [] => True
  | b :: r => p b ∧ allBw p r
theorem allBw_mem {p : Bw → Prop} {C : List Bw} (h : allBw p C) : ∀ b ∈ C, p b := by
  induction C with
  | nil => intro b hb; cases hb
  | cons c r ih =>
    intro b hb
    cases hb with
    | head => exact h.1
    | tail _ hb => exact ih h.2 b hb
def pairsBw : List Bw → Prop
  | [] => True
  | b :: r => allBw (fun c => b.x ≠ c.x ∧ b.g ≠ c.g) r ∧ pairsBw r
/-- What a world says of a block at g. -/
def rawB (ρ : Val) (w : World) (g : Nat) : Blk → Prop
  | .var ty cells => w.heap[g]? = some (.cells (cells.map (AC.conc ρ)).toArray ty (0, 0))
  | .arr ty sz n el room => OwnAt w g ty n sz el room
  | .ro .. => False
def cellsB (l : List Inp) (C : List Bw) : Blk → Prop
  | .var _ cells => allACb l C cells
  | _ => True
def Bw.fit (w : World) (ρ : Val) (l : List Inp) (C : List Bw) (b : Bw) : Prop := 1900 ≤ b.x ∧ apartI b.g l ∧ cellsB l C b.b ∧ rawB ρ w b.g b.b
theorem bw_inj {C : List Bw} (h : pairsBw C) : ∀ b ∈ C, ∀ c ∈ C, b = c ∨ (b.x ≠ c.x ∧ b.g ≠ c.g) := by
  induction C with
  | nil => intro b hb; cases hb
  | cons d r ih =>
    intro b hb c hc
    cases hb with
    | head =>
      cases hc with
      | head => exact .inl rfl
      | tail _ hc => exact .inr (allBw_mem h.1 c hc)
    | tail _ hb =>
      cases hc with
      | head =>
        have := allBw_mem h.1 b hb
        exact .inr ⟨this.1.symm, this.2.symm⟩
      | tail _ hc => exact ih h.2 b hb c hc
theorem bw_at {l : List Inp} {C : List Bw} (h : pairsBw C) {b : Bw} (hb : b ∈ C) : bwV l C b.x = (b.g, 0) ∧ bwM l C b.x = some b.b := by
  induction C with
  | nil => cases hb
  | cons d r ih =>
    cases hb with
    | head => simp only [bwV, bwM, Nat.beq_refl, cond_true]; exact ⟨trivial, trivial⟩
    | tail _ hb =>
      have e : Nat.beq b.x d.x = false := by
        cases e : Nat.beq b.x d.x with
        | false => rfl
        | true => exact absurd (Nat.eq_of_beq_eq_true e).symm (allBw_mem h.1 b hb).1
      simp only [bwV, bwM, e, cond_false]
      exact ih h.2 hb
theorem bw_none {l : List Inp} {C : List Bw} {x : Nat} (h : ∀ b ∈ C, b.x ≠ x) : bwV l C x = inpsV l x ∧ bwM l C x = lkM (inpsM l) x := by
  induction C with
  | nil => exact ⟨rfl, rfl⟩
  | cons d r ih =>
    have e : Nat.beq x d.x = false := by
      cases e : Nat.beq x d.x with
      | false => rfl
      | true => exact absurd (Nat.eq_of_beq_eq_true e).symm (h d (.head _))
    simp only [bwV, bwM, e, cond_false]
    exact ih fun b hb => h b (.tail _ hb)
theorem bwIn_mem {C : List Bw} {x : Nat} (h : bwIn C x) : ∃ b ∈ C, b.x = x := by
  induction C with
  | nil => cases h
  | cons d r ih =>
    rcases h with rfl | h
    · exact ⟨d, .head _, rfl⟩
    · obtain ⟨b, hb, e⟩ := ih h
      exact ⟨b, .tail _ hb, e⟩
theorem allACb_mem {l : List Inp} {C : List Bw} {cs : List AC} (h : allACb l C cs) : ∀ a ∈ cs, a.bw l C := by
  induction cs with
  | nil => intro a ha; cases ha
  | cons b r ih =>
    intro a ha
    cases ha with
    | head => exact h.1
    | tail _ ha => exact ih h.2 a ha
theorem capBw_mem {C : List Bw} {cs : List Cap} (h : allCapBw C cs) : ∀ x off, Cap.own x off ∈ cs → bwIn C x := by
  induction cs with
  | nil => intro x off ha; cases ha
  | cons b r ih =>
    intro x off ha
    cases ha with
    | head => exact h.1
    | tail _ ha =>
      cases b with
      | own y o => exact ih h.2 x off ha
      | val v => exact ih h x off ha
/-- What a cell holds hangs on where the captured blocks lie alone. -/
theorem conc_bw {l : List Inp} {C : List Bw} {ρ ρ' : Val} (hρ : ∀ b ∈ C, ρ b.x = ρ' b.x) {cs : List AC} (h : allACb l C cs) : cs.map (AC.conc ρ) = cs.map (AC.conc ρ') := by
  refine List.map_congr_left fun a ha => ?_
  have hb := allACb_mem h a ha
  have at' : ∀ x, bwIn C x → ρ x = ρ' x := fun x hx => by
    obtain ⟨b, hb, rfl⟩ := bwIn_mem hx
    exact hρ b hb
  cases a with
  | k v => rfl
  | inp x A len cap => rfl
  | ptr x i sz off => simp only [AC.conc, at' x hb]
  | slc x i sz len cap => simp only [AC.conc, at' x hb]
  | fn f caps =>
    have : caps.map (Cap.conc ρ) = caps.map (Cap.conc ρ') := List.map_congr_left fun c hc => by
      cases c with
      | own x off => simp only [Cap.conc, at' x (capBw_mem hb x off hc)]
      | val v => rfl
    simp only [AC.conc, this]
  | row x n g => exact hb.elim
def bwB (C : List Bw) : List (Nat × Nat) := C.map fun b => (b.x, b.g)
theorem Sat.initBw {w : World} {N : Nat} {avs : List AV} {l : List Inp} {C : List Bw} (hr : allRd w l) (hlo : lowI l) (hp : pairsBw C) (hf : allBw (Bw.fit w (bwV l C) l C) C)
    (ha : allAVb l C avs) {args : Array Value} (hargs : args = (avs.map (AV.conc (bwV l C))).toArray) (hN : avs.length ≤ N) :
    Sat ⟨w, bwB C, N⟩ (bwV l C) ⟨argsT avs, bwM l C⟩ { tmps := args ++ Array.replicate (N - args.size) undef, defers := [] } w := by
  have hfit := allBw_mem hf
  have split : ∀ x, (∃ b ∈ C, b.x = x) ∨ ∀ b ∈ C, b.x ≠ x := fun x => by
    by_cases h : ∃ b ∈ C, b.x = x
    · exact .inl h
    · exact .inr fun b hb e => h ⟨b, hb, e⟩
  have low : ∀ x b, lkM (inpsM l) x = some b → ∀ c ∈ C, c.x ≠ x := fun x b hx c hc e => by
    have h1 := low_at hlo hx
    have h2 := (hfit c hc).1
    omega
  have hin : ∀ x A len cap, inpIn l x A len → AC.ok (bwV l C) (bwM l C) (.inp x A len cap) := by
    intro x A len cap h
    have h1 := inp_ok (cap := cap) hr h
    obtain ⟨b, hb⟩ := Option.isSome_iff_exists.1 h1.1
    obtain ⟨e1, e2⟩ := bw_none (l := l) (low x b hb)
    exact ⟨by rw [e2]; exact h1.1, fun h0 => by rw [e1]; exact h1.2 h0⟩
  have hname : ∀ x, bwIn C x → (bwM l C x).isSome = true := fun x h => by
    obtain ⟨b, hb, rfl⟩ := bwIn_mem h
    rw [(bw_at hp hb).2]; rfl
  have hAC : ∀ a : AC, a.bw l C → a.ok (bwV l C) (bwM l C) := by
    intro a h
    cases a with
    | k v => trivial
    | inp x A len cap => exact hin x A len cap h
    | ptr x i sz off => exact hname x h
    | slc x i sz len cap => exact hname x h
    | fn f caps =>
      intro c hc
      cases c with
      | own x off => exact hname x (capBw_mem h x off hc)
      | val v => trivial
    | row x n g => exact h.elim
  refine ⟨⟨Fr.refl _ _, fun p hp' => ?_, fun x b hx => ?_, fun x y b c hx hy hb hc hne => ?_⟩, rfl, ?_, fun j => ?_⟩
  · obtain ⟨b, hb, rfl⟩ := List.mem_map.1 hp'
    exact ⟨(bw_at hp hb).1, by have := (hfit b hb).1; simp only; omega⟩
  · have hx : bwM l C x = some b := hx
    rcases split x with ⟨c, hc, rfl⟩ | hno
    · obtain ⟨e1, e2⟩ := bw_at (l := l) hp hc
      rw [e2] at hx
      injection hx with hx
      subst hx
      obtain ⟨_, _, h3, h4⟩ := hfit c hc
      have hbor : (c.x, (bwV l C c.x).1) ∈ bwB C := by rw [e1]; exact List.mem_map.2 ⟨c, hc, rfl⟩
      cases hcb : c.b with
      | var ty cells =>
        rw [hcb] at h3 h4
        exact ⟨by rw [e1], .inr hbor, by rw [e1]; exact h4, fun a ha => hAC a (allACb_mem h3 a ha)⟩
      | arr ty sz n el room =>
        rw [hcb] at h4
        exact ⟨by rw [e1], .inr hbor, by rw [e1]; exact h4⟩
      | ro sz n el => rw [hcb] at h4; exact h4.elim
    · obtain ⟨e1, e2⟩ := bw_none (l := l) hno
      rw [e2] at hx
      obtain ⟨A, n, sz, el, rfl, h2, h3⟩ := lkM_inps hx hr
      intro h0
      obtain ⟨b, o, rfl, h4, h5⟩ := h2 h0
      rw [e1, h3]
      exact ⟨h4, h5⟩
  · have hx : bwM l C x = some b := hx
    have hy : bwM l C y = some c := hy
    rcases split x with ⟨d, hd, rfl⟩ | hno
    · obtain ⟨e1, e2⟩ := bw_at (l := l) hp hd
      rcases split y with ⟨e, he, rfl⟩ | hno2
      · rw [e1, (bw_at (l := l) hp he).1]
        rcases bw_inj hp d hd e he with rfl | h
        · exact absurd rfl hne
        · exact h.2
      · obtain ⟨e3, e4⟩ := bw_none (l := l) hno2
        rw [e4] at hy
        obtain ⟨A, n, sz, el, rfl, h2, h3⟩ := lkM_inps hy hr
        rw [e1, e3]
        exact (apartI_at (hfit d hd).2.1 hy hr hc).symm
    · obtain ⟨e3, e4⟩ := bw_none (l := l) hno
      rw [e4] at hx
      obtain ⟨A, n, sz, el, rfl, _⟩ := lkM_inps hx hr
      exact hb.elim
  · subst hargs
    simp
    omega
  · show (argsT avs j).rep _ _ _
    unfold argsT
    cases hj : avs[j]? with
    | none => trivial
    | some a =>
      have hlt : j < avs.length := (List.getElem?_eq_some_iff.1 hj).1
      have hmem : a ∈ avs := List.mem_of_getElem? hj
      have hin : a.bw l C := by
        clear hj hlt hargs hN
        induction avs with
        | nil => cases hmem
        | cons b r ih =>
          cases hmem with
          | head => exact ha.1
          | tail _ hm => exact ih ha.2 hm
      refine ⟨?_, ?_⟩
      · cases a with
        | c a => exact hAC a hin
        | agg cs => exact fun a ha => hAC a (allACb_mem hin a ha)
      · subst hargs
        simp only [Array.getD_eq_getD_getElem?]
        rw [Array.getElem?_append_left (by simpa using hlt)]
        simp [hj]
section
variable {P : Program} {T : Tab}
/-- What a captured block holds in the end. -/
def outB (m : Mem) (x : Nat) : Blk → Prop
  | .var ty cells => m x = some (.var ty cells)
  | .arr ty sz n el _ => ∃ el2 room2, m x = some (.arr ty sz n el2 room2) ∧ ∀ i, i < n → el2 i = el i
  | .ro .. => False
def outAll (m : Mem) : List Bw → Prop
  | [] => True
  | b :: r => outB m b.x b.b ∧ outAll m r
theorem outAll_mem {m : Mem} {C : List Bw} (h : outAll m C) : ∀ b ∈ C, outB m b.x b.b := by
  induction C with
  | nil => intro b hb; cases hb
  | cons c r ih =>
    intro b hb
    cases hb with
    | head => exact h.1
    | tail _ hb => exact ih h.2 b hb
/-- What a world says of a block in the end (no room is told). -/
def rawE (ρ : Val) (w : World) (g : Nat) : Blk → Prop
  | .var ty cells => w.heap[g]? = some (.cells (cells.map (AC.conc ρ)).toArray ty (0, 0))
  | .arr ty sz n el _ => OwnAt w g ty n sz el 0
  | .ro .. => False
def rawAll (ρ : Val) (w : World) : List Bw → Prop
  | [] => True
  | b :: r => rawE ρ w b.g b.b ∧ rawAll ρ w r
theorem rawAll_of {ρ : Val} {w : World} {O : List Bw} (h : ∀ b ∈ O, rawE ρ w b.g b.b) : rawAll ρ w O := by
  induction O with
  | nil => trivial
  | cons b r ih => exact ⟨h b (.head _), ih fun b hb => h b (.tail _ hb)⟩
def endBw (T : Tab) (fn : Func) (v : Value) (O : List Bw) : Exit → St → Prop := fun e st => (e = .ret ∨ e = .normal) ∧ resP T st fn.results.toList = .mk v ∧ outAll st.m O
theorem enterBw (hT : Tab.fine P T) {f : FuncId} {fn : Func} {c : Code} {args : Array Value} {w : World} {v : Value} (C O : List Bw) (hf : P.funcs[f]? = some fn) (hb : fn.body = some c) (N : Nat) (hN : fn.ntmps = N) (avs : List AV) (l : List Inp) (hr : allRd w l) (hlo : lowI l) (hp : pairsBw C) (hfit : allBw (Bw.fit w (bwV l C) l C) C)
    (hargs : args = (avs.map (AV.conc (bwV l C))).toArray) (hl : Nat.ble avs.length N = true) (ha : allAVb l C avs) (hO : ∀ b ∈ O, ∃ c ∈ C, c.x = b.x ∧ c.g = b.g) (hOc : allBw (fun b => cellsB l C b.b) O)
    (h : G P ⟨w, bwB C, N⟩ (endBw T fn v O) c ⟨argsT avs, bwM l C⟩) : Calls P f args w fun e w' => e = .returned v ∧ Fr w (C.map (·.g)) w' ∧ rawAll (bwV l C) w' O := by
  subst hN
  refine enter (E := ⟨w, bwB C, fn.ntmps⟩) hf hb (bwV l C) (Sat.initBw hr hlo hp hfit ha hargs (Nat.le_of_ble_eq_true hl)) (h.mono fun e st hk => ⟨hk.1, fun ρ a w' hs => ?_⟩)
  obtain ⟨_, h1, h2⟩ := hk
  have hρ : ∀ c ∈ C, ρ c.x = (c.g, 0) := fun c hc => (hs.mem.bo (c.x, c.g) (List.mem_map.2 ⟨c, hc, rfl⟩)).1
  refine ⟨v, results_run hT hs h1, rfl, ?_, rawAll_of fun b hb => ?_⟩
  · have := hs.mem.fr
    simp only [bwB, List.map_map] at this
    exact this
  · obtain ⟨c, hc, e1, e2⟩ := hO b hb
    have ho := outAll_mem h2 b hb
    have hbx : ρ b.x = (b.g, 0) := by rw [← e1, ← e2]; exact hρ c hc
    cases hbb : b.b with
    | var ty cells =>
      rw [hbb] at ho
      have hk := (hs.mem.ok b.x _ ho).2.2.1
      have hcells := allBw_mem hOc b hb
      rw [hbb] at hcells
      rw [hbx, conc_bw (fun c hc => (hρ c hc).trans (bw_at (l := l) hp hc).1.symm) hcells] at hk
      exact hk
    | arr ty sz n el room =>
      rw [hbb] at ho
      obtain ⟨el2, room2, h3, h4⟩ := ho
      have hk := (hs.mem.ok b.x _ h3).2.2
      rw [hbx] at hk
      obtain ⟨a, h5, h6, h7⟩ := hk
      exact ⟨a, h5, by omega, fun i hi => by rw [← h4 i hi]; exact h7 i hi⟩
    | ro sz n el => rw [hbb] at ho; exact ho.elim
theorem endBw.ret {fn : Func} {v u : Value} {O : List Bw} {st : St} (h : resP T st fn.results.toList = .mk u) (e : u = v) (h2 : outAll st.m O) : endBw T fn v O .ret st := ⟨.inl rfl, h.trans (congrArg VR.mk e), h2⟩
theorem endBw.norm {fn : Func} {v u : Value} {O : List Bw} {st : St} (h : resP T st fn.results.toList = .mk u) (e : u = v) (h2 : outAll st.m O) : endBw T fn v O .normal st := ⟨.inr rfl, h.trans (congrArg VR.mk e), h2⟩
/-- Blocks that a closure leaves as they were need not be told. -/
theorem Fr.drop {w w' : World} {a b : List Nat} (h : Fr w a w') (hk : ∀ g ∈ a, g ∈ b ∨ w'.heap[g]? = w.heap[g]?) : Fr w b w' :=
  ⟨h.os, h.tape, h.output, h.size, fun k hk1 hk2 => by
    by_cases e : k ∈ a
    · rcases hk k e with h1 | h1
      · exact absurd h1 hk2
      · exact h1
    · exact h.block k hk1 e⟩
end
section
variable {P : Program} {E : Env} {K : Exit → St → Prop} {T : Tab}
/-! ### Calls that turn blocks of ours -/
structure Tb where
  x : Nat
  b : Blk
def turnedB (m : Mem) : List Tb → Mem
  | [] => m
  | b :: r => up (turnedB m r) b.x (some b.b)
theorem turnedB_at {m : Mem} {l : List Tb} (y : Nat) : (∃ b ∈ l, b.x = y ∧ turnedB m l y = some b.b) ∨ ((∀ b ∈ l, b.x ≠ y) ∧ turnedB m l y = m y) := by
  induction l with
  | nil => exact .inr ⟨by simp, rfl⟩
  | cons b r ih =>
    by_cases e : y = b.x
    · subst e
      exact .inl ⟨b, by simp, rfl, by simp [turnedB, up_same]⟩
    · rcases ih with ⟨c, h1, h2, h3⟩ | ⟨h1, h2⟩
      · exact .inl ⟨c, by simp [h1], h2, by rw [turnedB, up_other _ _ e]; exact h3⟩
      · refine .inr ⟨fun c hc => ?_, by rw [turnedB, up_other _ _ e]; exact h2⟩
        cases hc with
        | head => exact fun h => e h.symm
        | tail _ hc => exact h1 c hc
theorem BlkOK.place {ρ : Val} {m : Mem} {w : World} {x : Nat} {b : Blk} (h : BlkOK E ρ m w x b) (ho : b.own) : (ρ x).2 = 0 ∧ (E.w0.heap.size ≤ (ρ x).1 ∨ (x, (ρ x).1) ∈ E.bor) := by
  cases b with
  | var ty cells => exact ⟨h.1, h.2.1⟩
  | arr ty sz n el room => exact ⟨h.1, h.2.1⟩
  | ro sz n el => exact ho.elim
/-- The cells of a block name blocks that are there. -/
def okBl (ρ : Val) (m : Mem) : Blk → Prop
  | .var _ cells => ∀ c ∈ cells, c.ok ρ m
  | _ => True
theorem SatM.turnB {ρ : Val} {m : Mem} {w w' : World} (h : SatM E ρ m w) {l : List Tb} (hl : ∀ t ∈ l, ∃ b0, m t.x = some b0 ∧ b0.own) (hf : Fr w (l.map fun t => (ρ t.x).1) w') (hn : ∀ t ∈ l, rawE ρ w' (ρ t.x).1 t.b ∧ okBl ρ m t.b ∧ t.b.own ∧ ∀ ty sz n el room, t.b = .arr ty sz n el room → room = 0) : SatM E ρ (turnedB m l) w' := by
  have hsome : ∀ y, (m y).isSome = true → (turnedB m l y).isSome = true := by
    intro y hy
    rcases turnedB_at (m := m) (l := l) y with ⟨b, _, _, h3⟩ | ⟨_, h2⟩
    · rw [h3]; rfl
    · rw [h2]; exact hy
  have hold : ∀ y b, turnedB m l y = some b → ∃ b0, m y = some b0 ∧ (b.own → b0.own) ∧ (b.live → b0.live) := by
    intro y b hy
    rcases turnedB_at (m := m) (l := l) y with ⟨c, h1, rfl, h3⟩ | ⟨_, h2⟩
    · obtain ⟨b0, hc, ho⟩ := hl c h1
      exact ⟨_, hc, fun _ => ho, fun _ => Blk.own_live ho⟩
    · rw [h2] at hy
      exact ⟨b, hy, id, id⟩
  refine ⟨⟨hf.os.trans h.fr.os, hf.tape.trans h.fr.tape, hf.output.trans h.fr.output, Nat.le_trans h.fr.size hf.size, fun k hk hn => ?_⟩, h.bo, fun y b hy => ?_, fun y z c d hy hz hc hd hne => ?_⟩
  · refine (hf.block k (Nat.lt_of_lt_of_le hk h.fr.size) fun hmem => ?_).trans (h.fr.block k hk hn)
    obtain ⟨b, hb, e⟩ := List.mem_map.1 hmem
    obtain ⟨b0, hc, ho⟩ := hl b hb
    rcases mem_bor ((h.ok _ _ hc).place ho).2 with h1 | h1
    · rw [e] at h1; omega
    · rw [e] at h1; exact hn h1
  · rcases turnedB_at (m := m) (l := l) y with ⟨c, h1, rfl, h3⟩ | ⟨h1, h2⟩
    · rw [h3] at hy
      injection hy with hy
      subst hy
      obtain ⟨b0, hc, ho⟩ := hl c h1
      obtain ⟨p1, p2⟩ := (h.ok _ _ hc).place ho
      obtain ⟨n1, n2, n3, n4⟩ := hn c h1
      cases hcb : c.b with
      | var ty cells =>
        rw [hcb] at n1 n2
        exact ⟨p1, p2, n1, fun a ha => AC.ok_mono hsome (fun _ _ => rfl) (n2 a ha)⟩
      | arr ty sz n el room =>
        rw [hcb] at n1
        have := n4 _ _ _ _ _ hcb
        subst this
        exact ⟨p1, p2, n1⟩
      | ro sz n el => rw [hcb] at n3; exact n3.elim
    · rw [h2] at hy
      refine (h.ok y b hy).far hsome hf.size fun hlive => ?_
      refine hf.block _ (h.lt' hy hlive) fun hmem => ?_
      obtain ⟨c, hc, e⟩ := List.mem_map.1 hmem
      obtain ⟨b0, hcc, ho⟩ := hl c hc
      exact h.ne _ _ _ _ hcc hy ho hlive (h1 c hc) e
  · obtain ⟨c0, h1, h2, _⟩ := hold y c hy
    obtain ⟨d0, h3, _, h4⟩ := hold z d hz
    exact h.ne y z c0 d0 h1 h3 (h2 hc) (h4 hd) hne
def ownL (m : Mem) : List Tb → Prop
  | [] => True
  | t :: r => (∃ b0, m t.x = some b0 ∧ b0.own) ∧ ownL m r
theorem ownL_mem {m : Mem} {l : List Tb} (h : ownL m l) : ∀ t ∈ l, ∃ b0, m t.x = some b0 ∧ b0.own := by
  induction l with
  | nil => intro b hb; cases hb
  | cons c r ih =>
    intro b hb
    cases hb with
    | head => exact h.1
    | tail _ hb => exact ih h.2 b hb
/-- blocks that are turned: rows of ours -/
def arrL : List Tb → Prop
  | [] => True
  | ⟨_, .arr _ _ _ _ 0⟩ :: r => arrL r
  | _ => False
theorem arrL_mem {l : List Tb} (h : arrL l) : ∀ t ∈ l, ∃ ty sz n el, t.b = .arr ty sz n el 0 := by
  induction l with
  | nil => intro b hb; cases hb
  | cons c r ih =>
    obtain ⟨x, b⟩ := c
    intro t ht
    unfold arrL at h
    cases b with
    | arr ty sz n el room =>
      cases room with
      | zero =>
        cases ht with
        | head => exact ⟨_, _, _, _, rfl⟩
        | tail _ ht => exact ih h t ht
      | succ k => exact h.elim
    | _ => exact h.elim
def rawL (ρ : Val) (w : World) : List Tb → Prop
  | [] => True
  | t :: r => rawE ρ w (ρ t.x).1 t.b ∧ rawL ρ w r
theorem rawL_mem {ρ : Val} {w : World} {l : List Tb} (h : rawL ρ w l) : ∀ t ∈ l, rawE ρ w (ρ t.x).1 t.b := by
  induction l with
  | nil => intro b hb; cases hb
  | cons c r ih =>
    intro b hb
    cases hb with
    | head => exact h.1
    | tail _ hb => exact ih h.2 b hb
theorem SatM.turnL {ρ : Val} {m : Mem} {w w' : World} (h : SatM E ρ m w) {l : List Tb} (hl : ownL m l) (ha : arrL l) (hf : Fr w (l.map fun t => (ρ t.x).1) w') (hn : rawL ρ w' l) : SatM E ρ (turnedB m l) w' :=
  h.turnB (ownL_mem hl) hf fun t ht => by
    obtain ⟨ty, sz, n, el, e⟩ := arrL_mem ha t ht
    refine ⟨rawL_mem hn t ht, by rw [e]; trivial, by rw [e]; trivial, fun _ _ _ _ _ h => ?_⟩
    rw [e] at h
    injection h with _ _ _ _ h
    exact h.symm
/-- A call of a closure that turns rows of ours: it answers v. -/
theorem GO.callBw {ops : Array Oper} {rest : List Oper} {o : Oper} {c : Call} {f : FuncId} {avs : List AV} {caps : List Cap} {t : Nat → TV} {m : Mem} {v : Value} (l : List Tb) (hg : o.guard = none) (hop : o.op = .call c) (he : callE t c = .mk f avs caps) (hd : dstOk E.N o.dst = true)
    (hcf : ∀ (args : Array Value) (w : World), (callFunc f args).run P w = .ok (.enter f args) w) (hl : ownL m l) (ha : arrL l)
    (hc : ∀ ρ w, SatM E ρ m w → (∀ v ∈ avs, v.ok ρ m) → (∀ v ∈ caps, v.ok m) → Calls P f (avs.map (AV.conc ρ) ++ caps.map (Cap.conc ρ)).toArray w fun e w' => e = .returned v ∧ Fr w (l.map fun t => (ρ t.x).1) w' ∧ rawL ρ w' l)
    (k : GO P E ops K rest ⟨Sx.putT t o.dst (toTV v), turnedB m l⟩) : GO P E ops K (o :: rest) ⟨t, m⟩ := by
  refine GO.call hg hop he hcf (fun ρ a w hs hok hok2 => (hc ρ w hs.mem hok hok2).mono ?_)
  rintro e w' ⟨rfl, hf, hn⟩
  have hm := hs.mem.turnL hl ha hf hn
  have hsome : ∀ y, (m y).isSome = true → (turnedB m l y).isSome = true := by
    intro y hy
    rcases turnedB_at (m := m) (l := l) y with ⟨b, _, _, h3⟩ | ⟨_, h2⟩
    · rw [h3]; rfl
    · rw [h2]; exact hy
  exact ⟨v, ρ, _, rfl, (hs.move hm hsome (fun _ _ => rfl)).putT (dstOk_lt hd) (toTV_rep _ _ v), k⟩
/-- The same under a guard that is known to let it run. -/
theorem GO.callBwT {ops : Array Oper} {rest : List Oper} {o : Oper} {c : Call} {j : Nat} {want : Bool} {f : FuncId} {avs : List AV} {caps : List Cap} {t : Nat → TV} {m : Mem} {v : Value} {av : AV} (l : List Tb) (hg : o.guard = some (j, want)) (hb : guardB ops t j want = some true) (hop : o.op = .call c)
    (hob : AllP (stripObs t j want true (slotsOf o.op.operands.toList)))
    (he : callE (tG t j want (slotsOf o.op.operands.toList)) c = .mk f avs caps) (hd : dstOk E.N o.dst = true)
    (hcf : ∀ (args : Array Value) (w : World), (callFunc f args).run P w = .ok (.enter f args) w) (hl : ownL m l) (ha : arrL l) (hv : toTV v = .v av)
    (hc : ∀ ρ w, SatM E ρ m w → (∀ v ∈ avs, v.ok ρ m) → (∀ v ∈ caps, v.ok m) → Calls P f (avs.map (AV.conc ρ) ++ caps.map (Cap.conc ρ)).toArray w fun e w' => e = .returned v ∧ Fr w (l.map fun t => (ρ t.x).1) w' ∧ rawL ρ w' l)
    (k : GO P E ops K rest ⟨Sx.putT t o.dst (.grd j want true av), turnedB m l⟩) : GO P E ops K (o :: rest) ⟨t, m⟩ := by
  intro ρ a w hs
  have hw := wanted_cond (ops := ops) hs hg hb
  unfold wpList
  rw [hw, if_pos rfl]
  refine .inl ?_
  obtain ⟨hr, hok, hok2⟩ := call_run (hs.tG hob rfl) hop he hcf
  unfold Oper.wp
  rw [hr]
  refine (hc ρ w hs.mem hok hok2).mono ?_
  rintro e w' ⟨rfl, hf, hn⟩
  have hm := hs.mem.turnL hl ha hf hn
  have hsome : ∀ y, (m y).isSome = true → (turnedB m l y).isSome = true := by
    intro y hy
    rcases turnedB_at (m := m) (l := l) y with ⟨b, _, _, h3⟩ | ⟨_, h2⟩
    · rw [h3]; rfl
    · rw [h2]; exact hy
  have hrep := toTV_rep ρ (turnedB m l) v
  rw [hv] at hrep
  exact k ρ _ w' ((hs.move hm hsome (fun _ _ => rfl)).putT (dstOk_lt hd) (tv := .grd j want true av) ⟨fun _ => hrep, fun h => (by cases h)⟩)
/-- An operation under a guard that is known to shut it out. -/
theorem GO.shut {ops : Array Oper} {rest : List Oper} {o : Oper} {j : Nat} {want : Bool} {t : Nat → TV} {m : Mem} (av : AV) (hg : o.guard = some (j, want)) (hb : guardB ops t j want = some false) (hd : dstOk E.N o.dst = true)
    (k : GO P E ops K rest ⟨Sx.putT t o.dst (.grd j want false av), m⟩) : GO P E ops K (o :: rest) ⟨t, m⟩ := by
  intro ρ a w hs
  have hw := wanted_cond (ops := ops) hs hg hb
  unfold wpList
  rw [hw, if_neg (by simp)]
  exact k ρ _ w (hs.putT (dstOk_lt hd) (tv := .grd j want false av) ⟨fun h => (by cases h), fun _ => rfl⟩)
/-! ### The same in regions that draw their order -/
def msB : List Tb → List (Nat × Blk)
  | [] => []
  | b :: r => (b.x, b.b) :: msB r
theorem upm_msB (m : Mem) (l : List Tb) : upm m (msB l) = turnedB m l := by
  induction l with
  | nil => rfl
  | cons b r ih =>
    funext y
    have := congrFun ih y
    simp only [upm, msB, mget, turnedB, up] at this ⊢
    cases Nat.beq y b.x <;> simp_all
theorem ownL_le {m m' : Mem} (hle : LeM m m') {l : List Tb} (h : ownL m l) : ownL m' l := by
  induction l with
  | nil => trivial
  | cons b r ih => exact ⟨h.1.imp fun b0 hb => ⟨LeM.at hle hb.1, hb.2⟩, ih h.2⟩
theorem isSome_turnedB {m : Mem} {l : List Tb} (y : Nat) (hy : (m y).isSome = true) : (turnedB m l y).isSome = true := by
  rcases turnedB_at (m := m) (l := l) y with ⟨b, _, _, h3⟩ | ⟨_, h2⟩
  · rw [h3]; rfl
  · rw [h2]; exact hy
theorem Steps.callBw {ops : Array Oper} {o : Oper} {c : Call} {f : FuncId} {avs : List AV} {caps : List Cap} {v : Value} {C : St} (l : List Tb) (hg : o.guard = none) (hop : o.op = .call c) (he : callE C.t c = .mk f avs caps) (hd : dstOk E.N o.dst = true)
    (hcf : ∀ (args : Array Value) (w : World), (callFunc f args).run P w = .ok (.enter f args) w) (hl : ownL C.m l) (ha : arrL l)
    (hc : ∀ m, LeM C.m m → ∀ ρ w, SatM E ρ m w → (∀ v ∈ avs, v.ok ρ m) → (∀ v ∈ caps, v.ok m) → Calls P f (avs.map (AV.conc ρ) ++ caps.map (Cap.conc ρ)).toArray w fun e w' => e = .returned v ∧ Fr w (l.map fun t => (ρ t.x).1) w' ∧ rawL ρ w' l) : Steps P E ops o C (toTV v) (msB l) := by
  intro st hle ρ a w hs Kc Q hk
  have hs' := hs.weakT hle.t
  obtain ⟨hr, hok, hok2⟩ := call_run hs' hop he hcf
  rw [if_pos (by simp [Region.wanted, hg])]
  unfold Oper.wp
  rw [hr]
  refine (hc st.m hle.m ρ w hs.mem hok hok2).mono ?_
  rintro e w' ⟨rfl, hf, hn⟩
  have hm := hs.mem.turnL (ownL_le hle.m hl) ha hf hn
  rw [upm_msB] at hk
  exact hk ρ _ w' ((hs.move hm (fun y hy => isSome_turnedB y hy) (fun _ _ => rfl)).putT (dstOk_lt hd) (toTV_rep _ _ v))
theorem Steps.callBwT {ops : Array Oper} {o : Oper} {c : Call} {j : Nat} {want cb : Bool} {f : FuncId} {avs : List AV} {caps : List Cap} {v : Value} {av : AV} {C : St} (l : List Tb) (hct : cb = true) (hg : o.guard = some (j, want)) (hb : guardB ops C.t j want = some cb) (hop : o.op = .call c)
    (hob : AllP (stripObs C.t j want cb (slotsOf o.op.operands.toList)))
    (he : callE (tG C.t j want (slotsOf o.op.operands.toList)) c = .mk f avs caps) (hd : dstOk E.N o.dst = true)
    (hcf : ∀ (args : Array Value) (w : World), (callFunc f args).run P w = .ok (.enter f args) w) (hl : ownL C.m l) (ha : arrL l) (hv : toTV v = .v av)
    (hc : ∀ m, LeM C.m m → ∀ ρ w, SatM E ρ m w → (∀ v ∈ avs, v.ok ρ m) → (∀ v ∈ caps, v.ok m) → Calls P f (avs.map (AV.conc ρ) ++ caps.map (Cap.conc ρ)).toArray w fun e w' => e = .returned v ∧ Fr w (l.map fun t => (ρ t.x).1) w' ∧ rawL ρ w' l) : Steps P E ops o C (.grd j want cb av) (msB l) := by
  subst hct
  intro st hle ρ a w hs Kc Q hk
  have hs' := hs.weakT hle.t
  have hw := wanted_cond (ops := ops) hs' hg hb
  rw [hw, if_pos rfl]
  obtain ⟨hr, hok, hok2⟩ := call_run (hs'.tG hob rfl) hop he hcf
  unfold Oper.wp
  rw [hr]
  refine (hc st.m hle.m ρ w hs.mem hok hok2).mono ?_
  rintro e w' ⟨rfl, hf, hn⟩
  have hm := hs.mem.turnL (ownL_le hle.m hl) ha hf hn
  have hrep := toTV_rep ρ (turnedB st.m l) v
  rw [hv] at hrep
  rw [upm_msB] at hk
  exact hk ρ _ w' ((hs.move hm (fun y hy => isSome_turnedB y hy) (fun _ _ => rfl)).putT (dstOk_lt hd) (tv := .grd j want true av) ⟨fun _ => hrep, fun h => (by cases h)⟩)
theorem Steps.shut {ops : Array Oper} {o : Oper} {j : Nat} {want cb : Bool} {C : St} (av : AV) (hct : cb = false) (hg : o.guard = some (j, want)) (hb : guardB ops C.t j want = some cb) (hd : dstOk E.N o.dst = true) : Steps P E ops o C (.grd j want cb av) [] := by
  subst hct
  intro st hle ρ a w hs Kc Q hk
  have hs' := hs.weakT hle.t
  have hw := wanted_cond (ops := ops) hs' hg hb
  rw [hw, if_neg (by simp)]
  exact hk ρ _ w (hs.putT (dstOk_lt hd) (tv := .grd j want false av) ⟨fun h => (by cases h), fun _ => rfl⟩)
section
variable {l : List Oper} {cls : List Nat} {X : List (Nat × Nat)} {base : St}
theorem GD.callBw {recs : List DR} {o : Oper} {rest : List Oper} {t : Nat → TV} {m : Mem} {c : Call} {f : FuncId} {avs : List AV} {caps : List Cap} {v : Value} (tl : List Tb) (i : Nat) (hi : recs.length = i) (hg : o.guard = none) (hop : o.op = .call c) (he : callE (canF l cls X base i recs).t c = .mk f avs caps) (hd : dstOk E.N o.dst = true) (hn : Wok X i o (msB tl) = true)
    (hcf : ∀ (args : Array Value) (w : World), (callFunc f args).run P w = .ok (.enter f args) w) (hl : ownL (canF l cls X base i recs).m tl) (ha : arrL tl)
    (hc : ∀ m, LeM (canF l cls X base i recs).m m → ∀ ρ w, SatM E ρ m w → (∀ v ∈ avs, v.ok ρ m) → (∀ v ∈ caps, v.ok m) → Calls P f (avs.map (AV.conc ρ) ++ caps.map (Cap.conc ρ)).toArray w fun e w' => e = .returned v ∧ Fr w (tl.map fun t => (ρ t.x).1) w' ∧ rawL ρ w' tl)
    (k : GD P E K l cls X base (⟨o, toTV v, msB tl⟩ :: recs) rest (Sx.putT t o.dst (toTV v)) (upm m (msB tl))) : GD P E K l cls X base recs (o :: rest) t m :=
  GD.step (Steps.callBw tl hg hop (by rw [← canF_eq hi]; exact he) hd hcf (by rw [← canF_eq hi]; exact hl) ha (by rw [← canF_eq hi]; exact hc)) (by rw [hi]; exact hn) k
theorem GD.callBwT {recs : List DR} {o : Oper} {rest : List Oper} {t : Nat → TV} {m : Mem} {c : Call} {j : Nat} {want cb : Bool} {f : FuncId} {avs : List AV} {caps : List Cap} {v : Value} {av : AV} (tl : List Tb) (i : Nat) (hi : recs.length = i) (hct : cb = true) (hg : o.guard = some (j, want)) (hb : guardB l.toArray (canF l cls X base i recs).t j want = some cb) (hop : o.op = .call c)
    (hob : AllP (stripObs (canF l cls X base i recs).t j want cb (slotsOf o.op.operands.toList)))
    (he : callE (tG (canF l cls X base i recs).t j want (slotsOf o.op.operands.toList)) c = .mk f avs caps) (hd : dstOk E.N o.dst = true) (hn : Wok X i o (msB tl) = true)
    (hcf : ∀ (args : Array Value) (w : World), (callFunc f args).run P w = .ok (.enter f args) w) (hl : ownL (canF l cls X base i recs).m tl) (ha : arrL tl) (hv : toTV v = .v av)
    (hc : ∀ m, LeM (canF l cls X base i recs).m m → ∀ ρ w, SatM E ρ m w → (∀ v ∈ avs, v.ok ρ m) → (∀ v ∈ caps, v.ok m) → Calls P f (avs.map (AV.conc ρ) ++ caps.map (Cap.conc ρ)).toArray w fun e w' => e = .returned v ∧ Fr w (tl.map fun t => (ρ t.x).1) w' ∧ rawL ρ w' tl)
    (k : GD P E K l cls X base (⟨o, .grd j want cb av, msB tl⟩ :: recs) rest (Sx.putT t o.dst (.grd j want cb av)) (upm m (msB tl))) : GD P E K l cls X base recs (o :: rest) t m := by
  rw [canF_eq hi] at hb hob he hl hc
  exact GD.step (Steps.callBwT tl hct hg hb hop hob he hd hcf hl ha hv hc) (by rw [hi]; exact hn) k
theorem GD.shut {recs : List DR} {o : Oper} {rest : List Oper} {t : Nat → TV} {m : Mem} {j : Nat} {want cb : Bool} (av : AV) (i : Nat) (hi : recs.length = i) (hct : cb = false) (hg : o.guard = some (j, want)) (hb : guardB l.toArray (canF l cls X base i recs).t j want = some cb) (hd : dstOk E.N o.dst = true)
    (k : GD P E K l cls X base (⟨o, .grd j want cb av, []⟩ :: recs) rest (Sx.putT t o.dst (.grd j want cb av)) m) : GD P E K l cls X base recs (o :: rest) t m := by
  rw [canF_eq hi] at hb
  exact GD.step (Steps.shut av hct hg hb hd) rfl k
end
end
end Go.Sx
/- The symbolic executor, part AD: answers of any shape (plain parts and rows that the call has made), in any order; a whole array's element at an unknown place; appending to a list from nothing on. Generic over P. -/
set_option linter.unusedVariables false
set_option linter.unusedSimpArgs false
namespace Go.Sx
open Go.RowKit
theorem nbeq {i y : Nat} (e : i ≠ y) : Nat.beq i y = false := by
  cases h : Nat.beq i y with
  | false => rfl
  | true => exact absurd (Nat.eq_of_beq_eq_true h) e
theorem nx {a b : Nat} (h : Nat.beq a b = false) : a ≠ b := fun e => by subst e; simp at h
/-! ### Shapes of answers -/
/-- A part of an answer: a plain value, or a row of n elements of sz cells. -/
inductive RC where
  | p (v : Value)
  | r (n sz : Nat) (el : Nat → List Value)
inductive RV where
  | c (a : RC)
  | agg (l : List RC)
def RC.says (w w' : World) : RC → Value → Prop
  | .p v, u => u = v
  | .r n sz el, u => ∃ A c, u = .slice A n c ∧ n ≤ c ∧ (∀ a, A = some a → a.spot = none) ∧ RdNew w w' A n sz el
def saysL (w w' : World) : List RC → List Value → Prop
  | [], [] => True
  | a :: r, u :: s => a.says w w' u ∧ saysL w w' r s
  | _, _ => False
def flatV : List RV → List RC
  | [] => []
  | .c a :: r => a :: flatV r
  | .agg l :: r => l ++ flatV r
def valL : List RV → List Value → List Value
  | .c _ :: r, v :: s => v :: valL r s
  | .agg l :: r, s => .agg (s.take l.length).toArray :: valL r (s.drop l.length)
  | _, _ => []
def tupV : List Value → Value
  | [v] => v
  | l => .tuple l.toArray
/-- The answer has this shape. -/
def Ans (w w' : World) (rvs : List RV) (e : Ending) : Prop := ∃ cs, saysL w w' (flatV rvs) cs ∧ e = .returned (tupV (valL rvs cs))
/-! ### On the caller's side: rows get names -/
def rowM (m : Mem) (x n sz : Nat) (el : Nat → List Value) : Mem := up (up m x (some (.ro sz n el))) (x + 50) (some (.ro 0 0 fun _ => []))
def acL (g : Nat) : List RC → List Nat → List AC
  | .p v :: r, q => .k v :: acL g r q
  | .r n _ _ :: r, x :: q => .row x n g :: acL g r q
  | _, _ => []
def mL (m : Mem) : List RC → List Nat → Mem
  | .p _ :: r, q => mL m r q
  | .r n sz el :: r, x :: q => mL (rowM m x n sz el) r q
  | _, _ => m
def okN (m : Mem) : List RC → List Nat → Prop
  | [], _ => True
  | .p _ :: r, q => okN m r q
  | .r n sz el :: r, x :: q => m x = none ∧ m (x + 50) = none ∧ Nat.blt (x + 50) 1000 = true ∧ okN (rowM m x n sz el) r q
  | .r .. :: _, [] => False
def avL : List RV → List AC → List AV
  | .c _ :: r, a :: s => .c a :: avL r s
  | .agg l :: r, s => .agg (s.take l.length) :: avL r (s.drop l.length)
  | _, _ => []
def tvL : List AV → TV
  | [a] => .v a
  | l => .tup l
theorem avL_conc (ρ : Val) : ∀ (rvs : List RV) (acs : List AC), (avL rvs acs).map (AV.conc ρ) = valL rvs (acs.map (AC.conc ρ))
  | [], _ => rfl
  | .c _ :: r, [] => rfl
  | .c a :: r, b :: s => by
    simp only [avL, List.map_cons, valL, avL_conc ρ r s]
    rfl
  | .agg l :: r, s => by
    simp only [avL, List.map_cons, valL, avL_conc ρ r, List.map_drop, AV.conc, List.map_take]
theorem avL_ok {ρ : Val} {m : Mem} : ∀ (rvs : List RV) (acs : List AC), (∀ a ∈ acs, a.ok ρ m) → ∀ a ∈ avL rvs acs, a.ok ρ m
  | [], _, _ => fun a h => by cases h
  | .c _ :: r, [], _ => fun a h => by cases h
  | .c _ :: r, b :: s, h => fun a ha => by
    cases ha with
    | head => exact h b (.head _)
    | tail _ ha => exact avL_ok r s (fun a ha => h a (.tail _ ha)) a ha
  | .agg l :: r, s, h => fun a ha => by
    cases ha with
    | head => exact fun a ha => h a (List.mem_of_mem_take ha)
    | tail _ ha => exact avL_ok r _ (fun a ha => h a (List.mem_of_mem_drop ha)) a ha
theorem tvL_rep {ρ : Val} {m : Mem} {l : List AV} (h : ∀ a ∈ l, a.ok ρ m) : (tvL l).rep ρ m (tupV (l.map (AV.conc ρ))) := by
  match l, h with
  | [a], h => exact ⟨h a (.head _), rfl⟩
  | [], h => exact ⟨h, rfl⟩
  | a :: b :: r, h => exact ⟨h, rfl⟩
theorem isSome_rowM {m : Mem} {x n sz : Nat} {el : Nat → List Value} (y : Nat) (h : (m y).isSome = true) : (rowM m x n sz el y).isSome = true := isSome_up y (isSome_up y h)
section
variable {P : Program} {E : Env} {K : Exit → St → Prop} {T : Tab}
theorem SatM.addRow {ρ : Val} {m : Mem} {w' : World} {g0 : Nat} (h : SatM E ρ m w') (hlt : ∀ y b, m y = some b → b.own → (ρ y).1 < g0) {x n sz c : Nat} (hx : m x = none) (hx2 : m (x + 50) = none) (hxb : Nat.blt (x + 50) 1000 = true) {A : Option Addr} {el : Nat → List Value}
    (hr : 0 < n → ∃ b o, A = some ⟨b, o, none⟩ ∧ g0 ≤ b ∧ b < w'.heap.size ∧ ∀ i, i < n → (el i).length = sz ∧ ∀ j, j < sz → w'.cell? ⟨b, o + (i * sz + j), none⟩ = (el i)[j]?) (hsp : ∀ a, A = some a → a.spot = none) (hcn : n ≤ c) :
    ∃ ρ' : Val, (∀ y, (m y).isSome = true → ρ' y = ρ y) ∧ SatM E ρ' (rowM m x n sz el) w' ∧ AC.ok ρ' (rowM m x n sz el) (.row x n g0) ∧ AC.conc ρ' (.row x n g0) = .slice A n c ∧ ∀ y b, rowM m x n sz el y = some b → b.own → (ρ' y).1 < g0 := by
  have hxb : x + 50 < 1000 := by simpa [Nat.blt_eq] using hxb
  obtain ⟨p, hp0⟩ : ∃ p : Nat × Nat, p = (A.map fun a => (a.block, a.off)).getD (0, 0) := ⟨_, rfl⟩
  obtain ⟨q, hq0⟩ : ∃ q : Nat × Nat, q = (c, (A.map fun _ => 1).getD 0) := ⟨_, rfl⟩
  obtain ⟨ρ', hρ'⟩ : ∃ ρ' : Val, ρ' = up (up ρ x p) (x + 50) q := ⟨_, rfl⟩
  have e1 : ρ' x = p := by rw [hρ', up_other _ _ (by omega), up_same]
  have e2 : ρ' (x + 50) = q := by rw [hρ', up_same]
  have e3 : ∀ y, y ≠ x → y ≠ x + 50 → ρ' y = ρ y := fun y h1 h2 => by rw [hρ', up_other _ _ h2, up_other _ _ h1]
  have hρ : ∀ y, (m y).isSome = true → ρ' y = ρ y := fun y hy => e3 y (fun e => by subst e; simp [hx] at hy) (fun e => by subst e; simp [hx2] at hy)
  have hm : ∀ y b, rowM m x n sz el y = some b → (y = x + 50 ∧ b = .ro 0 0 fun _ => []) ∨ (y = x ∧ b = .ro sz n el) ∨ (y ≠ x ∧ y ≠ x + 50 ∧ m y = some b) := by
    intro y b hy
    unfold rowM at hy
    by_cases h1 : y = x + 50
    · subst h1
      rw [up_same] at hy
      injection hy with hy
      exact .inl ⟨rfl, hy.symm⟩
    · rw [up_other _ _ h1] at hy
      by_cases h2 : y = x
      · subst h2
        rw [up_same] at hy
        injection hy with hy
        exact .inr (.inl ⟨rfl, hy.symm⟩)
      · rw [up_other _ _ h2] at hy
        exact .inr (.inr ⟨h2, h1, hy⟩)
  have hp : 0 < n → g0 ≤ p.1 ∧ p.1 < w'.heap.size ∧ A = some ⟨p.1, p.2, none⟩ ∧ ∀ i, i < n → (el i).length = sz ∧ ∀ j, j < sz → w'.cell? ⟨p.1, p.2 + (i * sz + j), none⟩ = (el i)[j]? := by
    intro h0
    obtain ⟨b, o, rfl, h1, h2, h3⟩ := hr h0
    subst hp0
    exact ⟨h1, h2, rfl, h3⟩
  have hsome : ∀ y, (m y).isSome = true → (rowM m x n sz el y).isSome = true := fun y hy => isSome_rowM y hy
  refine ⟨ρ', hρ, ⟨h.fr, fun r hr => ?_, fun y b hy => ?_, fun y z b d hy hz hb hd hne => ?_⟩, ⟨?_, ?_, fun h0 => ?_, ?_⟩, ?_, fun y b hy hb => ?_⟩
  · have := h.bo r hr
    rw [e3 _ (by omega) (by omega)]; exact this
  · rcases hm y b hy with ⟨rfl, rfl⟩ | ⟨rfl, rfl⟩ | ⟨h1, h2, h3⟩
    · intro h0; omega
    · intro h0
      obtain ⟨_, h2, _, h3⟩ := hp h0
      rw [e1]
      exact ⟨h2, h3⟩
    · have hk := h.ok y b h3
      have ey : ρ' y = ρ y := e3 y h1 h2
      cases b with
      | var ty cells =>
        have hcm : cells.map (AC.conc ρ') = cells.map (AC.conc ρ) := List.map_congr_left fun c hm => AC.conc_mono hρ (hk.2.2.2 c hm)
        exact ⟨by rw [ey]; exact hk.1, by rw [ey]; exact hk.2.1, by rw [ey, hcm]; exact hk.2.2.1, fun c hc => AC.ok_mono hsome hρ (hk.2.2.2 c hc)⟩
      | arr ty sz n el room =>
        obtain ⟨k1, k2, a, ha, hs, he⟩ := hk
        exact ⟨by rw [ey]; exact k1, by rw [ey]; exact k2, a, by rw [ey]; exact ha, hs, he⟩
      | ro sz n el =>
        intro hn
        rw [ey]
        exact hk hn
  · rcases hm y b hy with ⟨rfl, rfl⟩ | ⟨rfl, rfl⟩ | ⟨h1, h2, h3⟩
    · exact hb.elim
    · exact hb.elim
    · rcases hm z d hz with ⟨rfl, rfl⟩ | ⟨rfl, rfl⟩ | ⟨k1, k2, k3⟩
      · exact absurd hd (Nat.lt_irrefl 0)
      · have := hlt y b h3 hb
        have := (hp hd).1
        rw [e1, e3 y h1 h2]
        omega
      · rw [e3 y h1 h2, e3 z k1 k2]
        exact h.ne y z b d h3 k3 hb hd hne
  · unfold rowM
    rw [up_other _ _ (by omega), up_same]; rfl
  · unfold rowM
    rw [up_same]; rfl
  · obtain ⟨h1, h2, h3, _⟩ := hp h0
    refine ⟨?_, by rw [e1]; exact h1⟩
    rw [e2, hq0, h3]
    exact Nat.one_ne_zero
  · rw [e2, hq0]
    exact hcn
  · simp only [AC.conc, rowAd, e1, e2, hq0, hp0]
    cases A with
    | none => rfl
    | some a =>
      have := hsp a rfl
      obtain ⟨b, o, s⟩ := a
      simp only at this
      subst this
      rfl
  · rcases hm y b hy with ⟨rfl, rfl⟩ | ⟨rfl, rfl⟩ | ⟨h1, h2, h3⟩
    · exact hb.elim
    · exact hb.elim
    · rw [e3 y h1 h2]; exact hlt y b h3 hb
theorem SatM.addL {w w' : World} {g : Nat} (hg : g ≤ w.heap.size) : ∀ (l : List RC) (q : List Nat) (cs : List Value) (m : Mem) (ρ : Val), SatM E ρ m w' → (∀ y b, m y = some b → b.own → (ρ y).1 < w.heap.size) → saysL w w' l cs → okN m l q →
    ∃ ρ' : Val, (∀ y, (m y).isSome = true → ρ' y = ρ y) ∧ (∀ y, (m y).isSome = true → (mL m l q y).isSome = true) ∧ SatM E ρ' (mL m l q) w' ∧ (∀ a ∈ acL g l q, a.ok ρ' (mL m l q)) ∧ (acL g l q).map (AC.conc ρ') = cs
  | [], q, [], m, ρ, h, _, _, _ => ⟨ρ, fun _ _ => rfl, fun _ h => h, h, fun a ha => (by cases ha), rfl⟩
  | [], q, _ :: _, m, ρ, _, _, hs, _ => hs.elim
  | _ :: _, q, [], m, ρ, _, _, hs, _ => by cases hs
  | .p v :: r, q, u :: s, m, ρ, h, hlt, hs, hn => by
    obtain ⟨ρ', h1, h2, h3, h4, h5⟩ := SatM.addL hg r q s m ρ h hlt hs.2 hn
    refine ⟨ρ', h1, h2, h3, fun a ha => ?_, ?_⟩
    · cases ha with
      | head => trivial
      | tail _ ha => exact h4 a ha
    · show AC.conc ρ' (.k v) :: (acL g r q).map (AC.conc ρ') = u :: s
      rw [h5]
      have : u = v := hs.1
      subst this
      rfl
  | .r n sz el :: r, [], u :: s, m, ρ, h, hlt, hs, hn => hn.elim
  | .r n sz el :: r, x :: q, u :: s, m, ρ, h, hlt, hs, hn => by
    obtain ⟨A, c, hu, hcn, hsp, hr⟩ := hs.1
    obtain ⟨k1, k2, k3, k4⟩ := hn
    obtain ⟨ρ1, g1, g2, g3, g4, g5⟩ := h.addRow hlt k1 k2 k3 hr hsp hcn
    obtain ⟨ρ', h1, h2, h3, h4, h5⟩ := SatM.addL hg r q s (rowM m x n sz el) ρ1 g2 g5 hs.2 k4
    have hsome : ∀ y, (m y).isSome = true → (rowM m x n sz el y).isSome = true := fun y hy => isSome_rowM y hy
    have okrow : AC.ok ρ' (mL (rowM m x n sz el) r q) (.row x n g) := by
      have o1 := AC.ok_mono h2 h1 g3
      exact ⟨o1.1, o1.2.1, fun h0 => ⟨(o1.2.2.1 h0).1, Nat.le_trans hg (o1.2.2.1 h0).2⟩, o1.2.2.2⟩
    refine ⟨ρ', fun y hy => (h1 y (hsome y hy)).trans (g1 y hy), fun y hy => h2 y (hsome y hy), h3, fun a ha => ?_, ?_⟩
    · cases ha with
      | head => exact okrow
      | tail _ ha => exact h4 a ha
    · show AC.conc ρ' (.row x n g) :: (acL g r q).map (AC.conc ρ') = u :: s
      rw [h5, hu, ← g4]
      congr 1
      have := AC.conc_mono h1 g3
      exact this
/-- What comes of an answer in the caller's state. -/
theorem SatM.answer {ρ : Val} {m : Mem} {w w' : World} (h : SatM E ρ m w) (hb : Below w.heap.size w w') {rvs : List RV} {cs : List Value} (hs : saysL w w' (flatV rvs) cs) (q : List Nat) (hn : okN m (flatV rvs) q) :
    ∃ ρ' : Val, (∀ y, (m y).isSome = true → ρ' y = ρ y) ∧ (∀ y, (m y).isSome = true → (mL m (flatV rvs) q y).isSome = true) ∧ SatM E ρ' (mL m (flatV rvs) q) w' ∧ (tvL (avL rvs (acL E.w0.heap.size (flatV rvs) q))).rep ρ' (mL m (flatV rvs) q) (tupV (valL rvs cs)) := by
  obtain ⟨ρ', h1, h2, h3, h4, h5⟩ := SatM.addL (w := w) (g := E.w0.heap.size) h.fr.size (flatV rvs) q cs m ρ (h.below hb) (fun y b hy ho => h.lt hy ho) hs hn
  refine ⟨ρ', h1, h2, h3, ?_⟩
  have := tvL_rep (avL_ok rvs (acL E.w0.heap.size (flatV rvs) q) h4)
  rw [avL_conc, h5] at this
  exact this
/-- A row that a call has made can be read. -/
theorem SatM.rowR {ρ : Val} {m : Mem} {w : World} (h : SatM E ρ m w) {x n sz n2 g : Nat} {el : Nat → List Value} (hx : m x = some (.ro sz n2 el)) (ho : AC.ok ρ m (.row x n g)) (hn : n ≤ n2) : RdRow w (rowAd ρ x) n sz el := by
  intro h0
  obtain ⟨h1, h2⟩ := h.ok x _ hx (by omega)
  exact ⟨(ρ x).1, (ρ x).2, if_neg (ho.2.2.1 h0).1, h1, fun i hi => h2 i (by omega)⟩
/-- A call whose answer has a shape. -/
theorem GO.callAns {ops : Array Oper} {rest : List Oper} {o : Oper} {c : Call} {f : FuncId} {avs : List AV} {caps : List Cap} {t : Nat → TV} {m : Mem} (rvs : List RV) (q : List Nat) (hg : o.guard = none) (hop : o.op = .call c) (he : callE t c = .mk f avs caps) (hd : dstOk E.N o.dst = true) (hn : okN m (flatV rvs) q)
    (hcf : ∀ (args : Array Value) (w : World), (callFunc f args).run P w = .ok (.enter f args) w)
    (hc : ∀ ρ w, SatM E ρ m w → (∀ v ∈ avs, v.ok ρ m) → Calls P f (avs.map (AV.conc ρ) ++ caps.map (Cap.conc ρ)).toArray w fun e w' => Ans w w' rvs e ∧ Below w.heap.size w w')
    (k : GO P E ops K rest ⟨Sx.putT t o.dst (tvL (avL rvs (acL E.w0.heap.size (flatV rvs) q))), mL m (flatV rvs) q⟩) : GO P E ops K (o :: rest) ⟨t, m⟩ := by
  refine GO.call hg hop he hcf (fun ρ a w hs hok _ => (hc ρ w hs.mem hok).mono ?_)
  rintro e w' ⟨⟨cs, hs1, rfl⟩, hb⟩
  obtain ⟨ρ', h1, h2, h3, h4⟩ := hs.mem.answer hb hs1 q hn
  exact ⟨_, ρ', _, rfl, (hs.move h3 h2 h1).putT (dstOk_lt hd) h4, k⟩
/-! ### In regions that draw -/
def msL : List RC → List Nat → List (Nat × Blk)
  | .p _ :: r, q => msL r q
  | .r n sz el :: r, x :: q => msL r q ++ [(x + 50, .ro 0 0 fun _ => []), (x, .ro sz n el)]
  | _, _ => []
theorem mget_app (a b : List (Nat × Blk)) (y : Nat) : mget (a ++ b) y = match mget a y with | some v => some v | none => mget b y := by
  induction a with
  | nil => rfl
  | cons p r ih =>
    simp only [List.cons_append, mget]
    cases Nat.beq y p.1 with
    | true => rfl
    | false => exact ih
theorem upm_msL : ∀ (l : List RC) (q : List Nat) (m : Mem), upm m (msL l q) = mL m l q
  | [], q, m => by cases q <;> rfl
  | .p _ :: r, q, m => upm_msL r q m
  | .r .. :: _, [], m => rfl
  | .r n sz el :: r, x :: q, m => by
    show upm m (msL r q ++ _) = mL (rowM m x n sz el) r q
    rw [← upm_msL r q]
    funext y
    simp only [upm, mget_app, rowM, up, mget]
    cases mget (msL r q) y with
    | some v => rfl
    | none =>
      cases Nat.beq y (x + 50) with
      | true => rfl
      | false => cases Nat.beq y x <;> rfl
theorem okN_same : ∀ {l : List RC} {q : List Nat} {m m' : Mem}, (∀ y, (mget (msL l q) y).isSome = true → m' y = m y) → okN m l q → okN m' l q
  | [], q, _, _, _, _ => by cases q <;> trivial
  | .p _ :: r, q, m, m', hq, h => okN_same (l := r) (q := q) hq h
  | .r .. :: _, [], _, _, _, h => h.elim
  | .r n sz el :: r, x :: q, m, m', hq, h => by
    obtain ⟨h1, h2, h3, h4⟩ := h
    have at1 : ∀ y, (y = x ∨ y = x + 50) → m' y = m y := fun y hy => hq y (by
      show (mget (msL r q ++ _) y).isSome = true
      rw [mget_app]
      cases mget (msL r q) y with
      | some v => rfl
      | none =>
        simp only [mget]
        rcases hy with rfl | rfl
        · cases Nat.beq y (y + 50) <;> simp
        · simp)
    refine ⟨by rw [at1 x (.inl rfl)]; exact h1, by rw [at1 _ (.inr rfl)]; exact h2, h3, okN_same (fun y hy => ?_) h4⟩
    have : m' y = m y := hq y (by
      show (mget (msL r q ++ _) y).isSome = true
      rw [mget_app]
      cases hm : mget (msL r q) y with
      | some v => rfl
      | none => rw [hm] at hy; cases hy)
    simp only [rowM, up, this]
theorem Steps.callAns {ops : Array Oper} {o : Oper} {c : Call} {f : FuncId} {avs : List AV} {caps : List Cap} {C : St} (rvs : List RV) (q : List Nat) (hg : o.guard = none) (hop : o.op = .call c) (he : callE C.t c = .mk f avs caps) (hd : dstOk E.N o.dst = true) (hn : okN C.m (flatV rvs) q)
    (hcf : ∀ (args : Array Value) (w : World), (callFunc f args).run P w = .ok (.enter f args) w)
    (hc : ∀ m, LeM C.m m → ∀ ρ w, SatM E ρ m w → (∀ v ∈ avs, v.ok ρ m) → Calls P f (avs.map (AV.conc ρ) ++ caps.map (Cap.conc ρ)).toArray w fun e w' => Ans w w' rvs e ∧ Below w.heap.size w w') :
    Steps P E ops o C (tvL (avL rvs (acL E.w0.heap.size (flatV rvs) q))) (msL (flatV rvs) q) := by
  intro st hle ρ a w hs Kc Q hk
  have hs' := hs.weakT hle.t
  obtain ⟨hr, hok, hok2⟩ := call_run hs' hop he hcf
  rw [if_pos (by simp [Region.wanted, hg])]
  unfold Oper.wp
  rw [hr]
  refine (hc st.m hle.m ρ w hs.mem hok).mono ?_
  rintro e w' ⟨⟨cs, hs1, rfl⟩, hb⟩
  obtain ⟨ρ', h1, h2, h3, h4⟩ := hs.mem.answer hb hs1 q (okN_same hle.n hn)
  refine hk ρ' _ w' ?_
  rw [upm_msL]
  exact (hs.move h3 h2 h1).putT (dstOk_lt hd) h4
theorem GD.callAns {l : List Oper} {cls : List Nat} {X : List (Nat × Nat)} {base : St} {recs : List DR} {o : Oper} {rest : List Oper} {t : Nat → TV} {m : Mem} {c : Call} {f : FuncId} {avs : List AV} {caps : List Cap} (rvs : List RV) (q : List Nat) (i : Nat) (hi : recs.length = i) (hg : o.guard = none) (hop : o.op = .call c) (he : callE (canF l cls X base i recs).t c = .mk f avs caps) (hd : dstOk E.N o.dst = true)
    (hn : okN (canF l cls X base i recs).m (flatV rvs) q) (hw : Wok X i o (msL (flatV rvs) q) = true)
    (hcf : ∀ (args : Array Value) (w : World), (callFunc f args).run P w = .ok (.enter f args) w)
    (hc : ∀ m, LeM (canF l cls X base i recs).m m → ∀ ρ w, SatM E ρ m w → (∀ v ∈ avs, v.ok ρ m) → Calls P f (avs.map (AV.conc ρ) ++ caps.map (Cap.conc ρ)).toArray w fun e w' => Ans w w' rvs e ∧ Below w.heap.size w w')
    (k : GD P E K l cls X base (⟨o, tvL (avL rvs (acL E.w0.heap.size (flatV rvs) q)), msL (flatV rvs) q⟩ :: recs) rest (Sx.putT t o.dst (tvL (avL rvs (acL E.w0.heap.size (flatV rvs) q)))) (upm m (msL (flatV rvs) q))) : GD P E K l cls X base recs (o :: rest) t m := by
  rw [canF_eq hi] at he hn hc
  exact GD.step (Steps.callAns rvs q hg hop he hd hn hcf hc) (by rw [hi]; exact hw) k
/-- An operation under a guard that is known to let it run (one that makes a block, too). -/
theorem Steps.opT (hT : Tab.fine P T) {ops : Array Oper} {o : Oper} {C : St} {j : Nat} {want cb : Bool} {av : AV} {m' : Mem} {obs : List Prop} (hct : cb = true) (hg : o.guard = some (j, want)) (hb : guardB ops C.t j want = some cb)
    (hob : AllP (stripObs C.t j want cb (slotsOf o.op.operands.toList))) (hd : dstOk E.N o.dst = true) (h : evOp T (dx o) (evG C.t j want (slotsOf o.op.operands.toList)) C.m o.op = .ok (.v av) m' obs) (ho : AllP obs) :
    Steps P E ops o C (.grd j want cb av) (msOf (evG C.t j want (slotsOf o.op.operands.toList)) (dx o) o.op m') := by
  subst hct
  intro st hle ρ a w hs Kc Q hk
  have hs' := hs.weakT hle.t
  have hw := wanted_cond (ops := ops) hs' hg hb
  rw [hw, if_pos rfl]
  have hsnd := evOp_sound (P := P) (E := E) (o := o) hT hs.mem (fun _ => rfl) (evG_rep hs' hob rfl) rfl (evOp_mem hle.m hle.d h) ho
  refine Snd.go hs (dstOk_lt hd) (tv := .grd j want true av) ?_ fun ρ' a' w' hs'' => hk ρ' a' w' hs''
  obtain ⟨n, w', ρ', h1, h2, h3, h4, h5⟩ := hsnd
  refine ⟨n, w', ρ', h1, ?_, h3, h4, h5⟩
  rcases h2 with ⟨v, hn, hv⟩ | ⟨_, hn⟩
  · exact .inl ⟨v, hn, fun _ => hv, fun hf => (by cases hf)⟩
  · cases hn
theorem GD.opT (hT : Tab.fine P T) {l : List Oper} {cls : List Nat} {X : List (Nat × Nat)} {base : St} {recs : List DR} {o : Oper} {rest : List Oper} {t : Nat → TV} {m : Mem} {j : Nat} {want cb : Bool} {av : AV} {m' : Mem} {obs : List Prop} {ms : List (Nat × Blk)} (i : Nat) (hi : recs.length = i) (hct : cb = true) (hg : o.guard = some (j, want)) (hb : guardB l.toArray (canF l cls X base i recs).t j want = some cb)
    (hob : AllP (stripObs (canF l cls X base i recs).t j want cb (slotsOf o.op.operands.toList))) (hd : dstOk E.N o.dst = true) (h : evOp T (dx o) (evG (canF l cls X base i recs).t j want (slotsOf o.op.operands.toList)) (canF l cls X base i recs).m o.op = .ok (.v av) m' obs) (ho : AllP obs)
    (hms : msOf (evG (canF l cls X base i recs).t j want (slotsOf o.op.operands.toList)) (dx o) o.op m' = ms) (hw : Wok X i o ms = true)
    (k : GD P E K l cls X base (⟨o, .grd j want cb av, ms⟩ :: recs) rest (Sx.putT t o.dst (.grd j want cb av)) (upm m ms)) : GD P E K l cls X base recs (o :: rest) t m := by
  subst hms
  rw [canF_eq hi] at hb hob h hw k
  exact GD.step (Steps.opT hT hct hg hb hob hd h ho) (by rw [hi]; exact hw) k
theorem Steps.callAnsT {ops : Array Oper} {o : Oper} {c : Call} {j : Nat} {want cb : Bool} {f : FuncId} {avs : List AV} {caps : List Cap} {C : St} {av : AV} (rvs : List RV) (q : List Nat) (hct : cb = true) (hg : o.guard = some (j, want)) (hb : guardB ops C.t j want = some cb) (hop : o.op = .call c)
    (hob : AllP (stripObs C.t j want cb (slotsOf o.op.operands.toList))) (he : callE (tG C.t j want (slotsOf o.op.operands.toList)) c = .mk f avs caps) (hd : dstOk E.N o.dst = true) (hn : okN C.m (flatV rvs) q)
    (hcf : ∀ (args : Array Value) (w : World), (callFunc f args).run P w = .ok (.enter f args) w) (hav : tvL (avL rvs (acL E.w0.heap.size (flatV rvs) q)) = .v av)
    (hc : ∀ m, LeM C.m m → ∀ ρ w, SatM E ρ m w → (∀ v ∈ avs, v.ok ρ m) → Calls P f (avs.map (AV.conc ρ) ++ caps.map (Cap.conc ρ)).toArray w fun e w' => Ans w w' rvs e ∧ Below w.heap.size w w') :
    Steps P E ops o C (.grd j want cb av) (msL (flatV rvs) q) := by
  subst hct
  intro st hle ρ a w hs Kc Q hk
  have hs' := hs.weakT hle.t
  have hw := wanted_cond (ops := ops) hs' hg hb
  rw [hw, if_pos rfl]
  obtain ⟨hr, hok, hok2⟩ := call_run (hs'.tG hob rfl) hop he hcf
  unfold Oper.wp
  rw [hr]
  refine (hc st.m hle.m ρ w hs.mem hok).mono ?_
  rintro e w' ⟨⟨cs, hs1, rfl⟩, hb⟩
  obtain ⟨ρ', h1, h2, h3, h4⟩ := hs.mem.answer hb hs1 q (okN_same hle.n hn)
  rw [hav] at h4
  refine hk ρ' _ w' ?_
  rw [upm_msL]
  exact (hs.move h3 h2 h1).putT (dstOk_lt hd) (tv := .grd j want true av) ⟨fun _ => h4, fun hf => (by cases hf)⟩
theorem GD.callAnsT {l : List Oper} {cls : List Nat} {X : List (Nat × Nat)} {base : St} {recs : List DR} {o : Oper} {rest : List Oper} {t : Nat → TV} {m : Mem} {c : Call} {j : Nat} {want cb : Bool} {f : FuncId} {avs : List AV} {caps : List Cap} {av : AV} (rvs : List RV) (q : List Nat) (i : Nat) (hi : recs.length = i) (hct : cb = true) (hg : o.guard = some (j, want)) (hb : guardB l.toArray (canF l cls X base i recs).t j want = some cb) (hop : o.op = .call c)
    (hob : AllP (stripObs (canF l cls X base i recs).t j want cb (slotsOf o.op.operands.toList))) (he : callE (tG (canF l cls X base i recs).t j want (slotsOf o.op.operands.toList)) c = .mk f avs caps) (hd : dstOk E.N o.dst = true) (hn : okN (canF l cls X base i recs).m (flatV rvs) q) (hw : Wok X i o (msL (flatV rvs) q) = true)
    (hcf : ∀ (args : Array Value) (w : World), (callFunc f args).run P w = .ok (.enter f args) w) (hav : tvL (avL rvs (acL E.w0.heap.size (flatV rvs) q)) = .v av)
    (hc : ∀ m, LeM (canF l cls X base i recs).m m → ∀ ρ w, SatM E ρ m w → (∀ v ∈ avs, v.ok ρ m) → Calls P f (avs.map (AV.conc ρ) ++ caps.map (Cap.conc ρ)).toArray w fun e w' => Ans w w' rvs e ∧ Below w.heap.size w w')
    (k : GD P E K l cls X base (⟨o, .grd j want cb av, msL (flatV rvs) q⟩ :: recs) rest (Sx.putT t o.dst (.grd j want cb av)) (upm m (msL (flatV rvs) q))) : GD P E K l cls X base recs (o :: rest) t m := by
  rw [canF_eq hi] at hb hob he hn hc
  exact GD.step (Steps.callAnsT rvs q hct hg hb hop hob he hd hn hcf hav hc) (by rw [hi]; exact hw) k
end
/-! ### On the callee's side -/
/-- A row in memory that is ours or that a call of ours has made. -/
def rowC (g : Nat) (m : Mem) (n sz : Nat) (el : Nat → List Value) : AC → Prop
  | .k (.slice A len c) => len = n ∧ n = 0 ∧ ∀ a, A = some a → a.spot = none
  | .slc x i0 sz' len c => n ≤ c ∧ rowAt m n sz el (.v (.c (.slc x i0 sz' len c)))
  | .row x len g' => len = n ∧ g ≤ g' ∧ ∃ n2 el2, m x = some (.ro sz n2 el2) ∧ n ≤ n2 ∧ ∀ i, i < n → el i = el2 i
  | _ => False
def cellAt (g : Nat) (m : Mem) : RC → AC → Prop
  | .p v, a => a = .k v
  | .r n sz el, a => rowC g m n sz el a
def cellsAt (g : Nat) (m : Mem) : List RC → List AC → Prop
  | [], [] => True
  | a :: r, b :: s => cellAt g m a b ∧ cellsAt g m r s
  | _, _ => False
def avAt (g : Nat) (m : Mem) : RV → AV → Prop
  | .c a, .c b => cellAt g m a b
  | .agg l, .agg k => cellsAt g m l k
  | _, _ => False
def resAt (T : Tab) (g : Nat) (st : St) : List RV → List ResultVar → Prop
  | [], [] => True
  | rv :: r, x :: s => (∃ av, resOne T st x = .v av ∧ avAt g st.m rv av) ∧ resAt T g st r s
  | _, _ => False
section
variable {P : Program} {E : Env} {K : Exit → St → Prop} {T : Tab}
theorem cellAt_says {w0 : World} {N : Nat} {ρ : Val} {m : Mem} {w : World} (hm : SatM ⟨w0, [], N⟩ ρ m w) {rc : RC} {a : AC} (ha : a.ok ρ m) (h : cellAt w0.heap.size m rc a) : rc.says w0 w (a.conc ρ) := by
  cases rc with
  | p v =>
    have : a = .k v := h
    subst this
    rfl
  | r n sz el =>
    cases a with
    | k v =>
      cases v with
      | slice A len c =>
        obtain ⟨rfl, rfl, h3⟩ := h
        exact ⟨A, c, rfl, Nat.zero_le _, h3, fun h0 => absurd h0 (Nat.lt_irrefl 0)⟩
      | _ => exact h.elim
    | slc x i0 sz' len c =>
      obtain ⟨h1, h2⟩ := h
      obtain ⟨A, c', h3, h4⟩ := rowAt_new hm (tv := .v (.c (.slc x i0 sz' len c))) (v := AC.conc ρ (.slc x i0 sz' len c)) ⟨ha, rfl⟩ h2
      have h5 : Value.slice (some ⟨(ρ x).1, (ρ x).2 + i0 * sz', none⟩) len c = .slice A n c' := h3
      injection h5 with e1 e2 e3
      subst e1; subst e2; subst e3
      exact ⟨_, c, rfl, h1, fun a ha => by injection ha with ha; subst ha; rfl, h4⟩
    | row x len g' =>
      obtain ⟨rfl, hg, n2, el2, hx, hn, hel⟩ := h
      obtain ⟨o1, o2, o3, o4⟩ := ha
      refine ⟨rowAd ρ x, _, rfl, o4, fun a ha => ?_, fun h0 => ?_⟩
      · unfold rowAd at ha
        split at ha
        · cases ha
        · injection ha with ha; subst ha; rfl
      · obtain ⟨h1, h2⟩ := hm.ok x _ hx (by omega)
        refine ⟨(ρ x).1, (ρ x).2, if_neg (o3 h0).1, Nat.le_trans hg (o3 h0).2, h1, fun i hi => ?_⟩
        rw [hel i hi]
        exact h2 i (by omega)
    | _ => exact h.elim
theorem cellsAt_says {w0 : World} {N : Nat} {ρ : Val} {m : Mem} {w : World} (hm : SatM ⟨w0, [], N⟩ ρ m w) : ∀ {l : List RC} {k : List AC}, (∀ a ∈ k, a.ok ρ m) → cellsAt w0.heap.size m l k → saysL w0 w l (k.map (AC.conc ρ)) ∧ k.length = l.length
  | [], [], _, _ => ⟨trivial, rfl⟩
  | [], _ :: _, _, h => h.elim
  | _ :: _, [], _, h => h.elim
  | a :: r, b :: s, ho, h => by
    obtain ⟨h1, h2⟩ := cellsAt_says hm (l := r) (k := s) (fun a ha => ho a (.tail _ ha)) h.2
    exact ⟨⟨cellAt_says hm (ho b (.head _)) h.1, h1⟩, by simp [h2]⟩
theorem saysL_app {w w' : World} : ∀ {a b : List RC} {x y : List Value}, saysL w w' a x → saysL w w' b y → saysL w w' (a ++ b) (x ++ y)
  | [], b, [], y, _, h => h
  | [], _, _ :: _, _, h, _ => h.elim
  | _ :: _, _, [], _, h, _ => h.elim
  | a :: r, b, u :: s, y, h, h2 => ⟨h.1, saysL_app h.2 h2⟩
theorem resAt_run (hT : Tab.fine P T) {w0 : World} {N : Nat} {st : St} {ρ : Val} {a : Act} {w : World} (hs : Sat ⟨w0, [], N⟩ ρ st a w) : ∀ {rvs : List RV} {l : List ResultVar}, resAt T w0.heap.size st rvs l →
    ∃ us cs, (l.mapM (m := Sem) (resSem a)).run P w = .ok us w ∧ saysL w0 w (flatV rvs) cs ∧ us = valL rvs cs
  | [], [], _ => ⟨[], [], rfl, trivial, rfl⟩
  | [], _ :: _, h => h.elim
  | _ :: _, [], h => h.elim
  | rv :: r, x :: s, h => by
    obtain ⟨⟨av, h1, h2⟩, h3⟩ := h
    obtain ⟨us, cs, h4, h5, h6⟩ := resAt_run hT hs h3
    obtain ⟨h7, h8⟩ := resOne_run hT hs h1
    cases rv with
    | c rc =>
      cases av with
      | c b =>
        refine ⟨b.conc ρ :: us, b.conc ρ :: cs, by simp only [List.mapM_cons, Sem.run_bind, h7, h4, Result.andThen_ok, Sem.run_pure]; rfl, ⟨cellAt_says hs.mem h8 h2, h5⟩, by rw [h6]; rfl⟩
      | agg k => exact h2.elim
    | agg l =>
      cases av with
      | c b => exact h2.elim
      | agg k =>
        obtain ⟨g1, g2⟩ := cellsAt_says hs.mem h8 h2
        refine ⟨(AV.agg k).conc ρ :: us, k.map (AC.conc ρ) ++ cs, by simp only [List.mapM_cons, Sem.run_bind, h7, h4, Result.andThen_ok, Sem.run_pure], saysL_app g1 h5, ?_⟩
        have e1 : (k.map (AC.conc ρ) ++ cs).take l.length = k.map (AC.conc ρ) := by rw [← g2, ← @List.length_map _ _ k (AC.conc ρ), List.take_left]
        have e2 : (k.map (AC.conc ρ) ++ cs).drop l.length = cs := by rw [← g2, ← @List.length_map _ _ k (AC.conc ρ), List.drop_left]
        simp only [valL, e1, e2, h6, AV.conc]
theorem tupV_results {P : Program} {fn : Func} {a : Act} {w : World} {us : List Value} (h : (fn.results.toList.mapM (m := Sem) (resSem a)).run P w = .ok us w) : (results fn a.tmps).run P w = .ok (tupV us) w := by
  have e : results fn a.tmps = (fn.results.mapM (m := Sem) (resSem a) >>= fun vs => pure (if h : vs.size = 1 then vs[0] else Value.tuple vs)) := by
    unfold results
    congr 2
  have h3 : (fn.results.mapM (m := Sem) (resSem a)).run P w = .ok us.toArray w := by
    rw [Array.mapM_eq_mapM_toList]
    simp only [Sem.run_map, h, Result.andThen_ok]
  rw [e]
  simp only [Sem.run_bind, h3, Result.andThen_ok, Sem.run_pure]
  congr 1
  match us with
  | [u] => rfl
  | [] => rfl
  | u :: u' :: r => rfl
def endAns (T : Tab) (fn : Func) (g : Nat) (rvs : List RV) : Exit → St → Prop := fun e st => (e = .ret ∨ e = .normal) ∧ resAt T g st rvs fn.results.toList
theorem enterAns (hT : Tab.fine P T) {f : FuncId} {fn : Func} {c : Code} {args : Array Value} {w : World} (rvs : List RV) (hf : P.funcs[f]? = some fn) (hb : fn.body = some c) (N : Nat) (hN : fn.ntmps = N) (avs : List AV) (l : List Inp)
    (hargs : args = (avs.map (AV.conc (inpsV l))).toArray) (hl : Nat.ble avs.length N = true) (hr : allRd w l) (ha : allInps l avs)
    (h : G P ⟨w, [], N⟩ (endAns T fn w.heap.size rvs) c ⟨argsT avs, lkM (inpsM l)⟩) : Calls P f args w fun e w' => Ans w w' rvs e ∧ Below w.heap.size w w' := by
  subst hN
  refine enter (E := ⟨w, [], fn.ntmps⟩) hf hb (inpsV l) (Sat.init hr ha hargs (Nat.le_of_ble_eq_true hl)) (h.mono fun e st hk => ⟨hk.1, fun ρ a w' hs => ?_⟩)
  obtain ⟨us, cs, h1, h2, h3⟩ := resAt_run hT hs hk.2
  exact ⟨_, tupV_results h1, ⟨cs, h2, by rw [h3]⟩, hs.mem.fr.toBelow⟩
theorem endAns.ret {fn : Func} {g : Nat} {rvs : List RV} {st : St} (h : resAt T g st rvs fn.results.toList) : endAns T fn g rvs .ret st := ⟨.inl rfl, h⟩
theorem endAns.norm {fn : Func} {g : Nat} {rvs : List RV} {st : St} (h : resAt T g st rvs fn.results.toList) : endAns T fn g rvs .normal st := ⟨.inr rfl, h⟩
/-! ### A whole array's element -/
theorem dropK_eq {l : List AC} {n : Nat} {K : List AC → RR} (h : n ≤ l.length) : dropK l n K = K (l.drop n) := by
  induction n generalizing l with
  | zero => cases l <;> rfl
  | succ n ih =>
    cases l with
    | nil => simp at h
    | cons a r => exact ih (by simpa using h)
theorem GO.indexAt (hT : Tab.fine P T) {ops : Array Oper} {rest : List Oper} {o : Oper} {t e d N : Nat} {y i : Operand} {dd de : TyD} {t0 : Nat → TV} {m : Mem} {kd : IntKind} (vs : List Value) (k : Nat) (v : Value) (hg : o.guard = none) (hop : o.op = .index t y i) (hd : o.dst = some d) (hdN : Nat.blt d E.N = true)
    (ht : T t = some dd) (hk : dd.kind = .array N e) (he : T e = some de) (h1 : de.size = 1) (ha : de.kind.isAgg = false) (hy : evT t0 y = .v (.agg (vs.map .k))) (hi : evT t0 i = .v (.c (.k (.int kd (k : Int))))) (hv : vs[k]? = some v) (hkN : k < N)
    (cont : GO P E ops K rest ⟨up t0 d (.v (.c (.k v))), m⟩) : GO P E ops K (o :: rest) ⟨t0, m⟩ := by
  have hlt : k < vs.length := (List.getElem?_eq_some_iff.1 hv).1
  have hev : evIndex T m t (evT t0 y) (evT t0 i) = .ok (.v (.c (.k v))) m [0 ≤ (k : Int), (k : Int) < (N : Int)] := by
    rw [hy, hi]
    unfold evIndex
    simp only [ht, hk, he, h1, ha, Int.toNat_natCast, Nat.mul_one]
    rw [dropK_eq (by simp; omega)]
    have : (vs.map AC.k).drop k = .k v :: (vs.map AC.k).drop (k + 1) := by
      rw [List.drop_eq_getElem_cons (by simpa using hlt)]
      congr 1
      simp only [List.getElem_map]
      congr 1
      have := List.getElem?_eq_getElem hlt
      rw [this] at hv
      injection hv
    rw [this]
    generalize (vs.map AC.k).drop (k + 1) = r
    cases r <;> rfl
  have hstep : stepE T E.N ops t0 m o = .ok (.v (.c (.k v))) m [0 ≤ (k : Int), (k : Int) < (N : Int)] := by
    unfold stepE
    have : dstOk E.N o.dst = true := by rw [hd]; exact hdN
    rw [this, hg, hd, hop]
    exact hev
  exact GO.step (st := ⟨t0, m⟩) hT hstep ⟨by omega, by omega, trivial⟩ (by rw [hd]; exact cont)
theorem GO.emptySliceS {ops : Array Oper} {rest : List Oper} {o : Oper} {t e d : Nat} {t0 : Nat → TV} {m : Mem} {dd : TyD} (hT : Tab.fine P T) (hg : o.guard = none) (hop : o.op = .buildSlice t 0 #[]) (hd : o.dst = some d) (hdN : Nat.blt d E.N = true) (ht : T t = some dd) (hk : dd.kind = .slice e) {de : TyD} (he : T e = some de)
    (k : ∀ A, (∀ a : Addr, A = some a → a.spot = none) → GO P E ops K rest ⟨up t0 d (.v (.c (.k (.slice A 0 0)))), m⟩) : GO P E ops K (o :: rest) ⟨t0, m⟩ := by
  intro ρ a w hs
  have hkind := (hT.ok t dd ht).kind
  rw [hk] at hkind
  have hsz := (hT.ok e de he).size w
  have hrun : (execOp a.eval o).run P w = .ok (.value (.slice (some ⟨w.heap.size, 0, none⟩) 0 0)) (w.alloc (.cells #[] e)) := by
    simp [execOp, hop, Instr.buildSlice, hkind w, hsz, Instr.fill, newRow]
    rw [show (w.alloc (.cells #[] e)) = w.alloc (.cells (Array.map (fun _ => (default : Value)) (Array.range 0)) e) by rw [show (Array.map (fun _ => (default : Value)) (Array.range 0)) = #[] from by apply Array.toList_inj.1; simp]]
  unfold wpList
  rw [if_pos (by simp [Region.wanted, hg])]
  refine .inl ?_
  unfold Oper.wp
  rw [hrun]
  refine k (some ⟨w.heap.size, 0, none⟩) (fun a ha => by injection ha with ha; subst ha; rfl) ρ _ _ ?_
  rw [hd]
  exact (hs.below ((Below.refl _ _).alloc (Nat.le_refl _) _)).put (by simpa [Nat.blt_eq] using hdN) ⟨trivial, rfl⟩
/-! ### A list that grows from nothing on -/
def accV (d sz n c : Nat) : AC := match n with
  | 0 => .k (.slice none 0 0)
  | n + 1 => .slc d 0 sz (n + 1) c
theorem GO.appendAcc {ops : Array Oper} {rest : List Oper} {o : Oper} {s y : Operand} {t e size bytes d n c : Nat} {z : Value} {t0 : Nat → TV} {m : Mem} {el : Nat → List Value} {q c1 : Nat} {ty1 : TypeId} (vs : List Value) (tl : List (Nat × TV)) (ml : List (Nat × Blk)) (hp : ApT P t e size bytes z) (hg : o.guard = none) (hop : o.op = .call { callee := .builtin .append, args := #[s, y], argTypes := #[t, t] })
    (hd : o.dst = some d) (hdN : Nat.blt d E.N = true) (hdb : Nat.blt d 1000 = true) (hs : evT t0 s = .v (.c (accV d size n c))) (hx : 0 < n → m d = some (.arr e size n el ((c - n) * size)))
    (hy : evT t0 y = .v (.c (.slc q 0 size 1 c1))) (hq : m q = some (.var ty1 (vs.map .k))) (hv : vs.length = size) (h1 : ∀ u ∈ vs, u.oneCell' = true)
    (hle : St.le E (St.of tl ml) ⟨t0, m⟩) (hfr : ∀ z b, (St.of tl ml).m z = some b → m z = some b ∧ z ≠ d) (hlen : ∀ k, k < n → (el k).length = size) (b1 : n + 1 ≤ maxLen) (b2 : (n + 1) * bytes ≤ 140737488355328)
    (k : ∀ c', n + 1 ≤ c' → GO P E ops K rest ⟨up (St.of tl ml).t d (.v (.c (.slc d 0 size (n + 1) c'))), up (St.of tl ml).m d (some (.arr e size (n + 1) (elN el n vs) ((c' - (n + 1)) * size)))⟩) : GO P E ops K (o :: rest) ⟨t0, m⟩ := by
  have hfree : (St.of tl ml).m d = none := by
    cases h : (St.of tl ml).m d with
    | none => rfl
    | some b => exact absurd rfl (hfr d b h).2
  cases n with
  | succ n => exact GO.appendOwn vs tl ml hp hg hop hd hdN hdb hdb hs (hx (Nat.succ_pos n)) (Nat.le_refl _) hy hq hv h1 hle hfr hfree hlen b1 b2 k
  | zero =>
    intro ρ a w hsat
    have hs0 := hle ρ a w hsat
    have es : a.eval s = .slice none 0 0 := by have := hsat.eval s; simp only [St.ev, hs] at this; exact this.2
    have ex := hsat.eval y
    simp only [St.ev, hy] at ex
    obtain ⟨B, cc, e3, hr⟩ := (RowOf.var (P := P) (E := E) (c := c1) (n := 1) (sz := size) hq (by omega)) ρ w hsat.mem ex.1
    have hone : ∀ i, i < 1 → elN el 0 vs i = vs := fun i hi => by
      have : i = 0 := by omega
      subst this
      exact elN_eq
    have hr' : RdRow w B 1 size (elN el 0 vs) := hr.congr fun i hi => by
      rw [hone i hi]
      have : i = 0 := by omega
      subst this
      simp [← hv]
    have ex : a.eval y = .slice B 1 cc := ex.2.trans e3
    unfold wpList
    rw [if_pos (by simp [Region.wanted, hg])]
    refine .inl ?_
    unfold Oper.wp
    rcases append_new (ty := o.type) hp (A := none) (c := cc) hr' (fun i hi u hu => h1 u (by rw [hone i hi] at hu; exact hu)) (by omega) (by omega) with ⟨h0, _⟩ | ⟨h0, v', w', hrun, r1, r2⟩
    · cases h0
    · have : (execOp a.eval o).run P w = .ok (.value v') w' := by
        simp [execOp, hop, resolve, invoke, builtin, es, ex, hrun, Result.andThen]
      rw [this]
      obtain ⟨ρ', c', h2, h3, h4, h5⟩ := hs0.mem.newOwn hfree (by simpa [Nat.blt_eq] using hdb) (fun i hi => by rw [hone i hi]; exact hv) h0 r1 r2
      refine k c' h2 ρ' _ w' ?_
      rw [hd]
      refine (hs0.move h4 (fun y hy => isSome_up y hy) h3).put (by simpa [Nat.blt_eq] using hdN) ⟨?_, h5⟩
      show (up (St.of tl ml).m d _ d).isSome = true
      rw [up_same]; rfl
def accMl (d : Nat) (e : TypeId) (sz n c : Nat) (el : Nat → List Value) : List (Nat × Blk) := match n with
  | 0 => []
  | n + 1 => [(d, .arr e sz (n + 1) el ((c - (n + 1)) * sz))]
theorem rowC_acc {g : Nat} {m : Mem} {d sz n c : Nat} {e : TypeId} {el el2 : Nat → List Value} {room : Nat} (hc : n ≤ c) (hm : 0 < n → m d = some (.arr e sz n el2 room)) (he : ∀ i, i < n → el i = el2 i) : rowC g m n sz el (accV d sz n c) := by
  cases n with
  | zero => exact ⟨rfl, rfl, fun a h => by cases h⟩
  | succ n =>
    refine ⟨hc, rfl, rfl, ?_⟩
    rw [hm (Nat.succ_pos n)]
    exact ⟨rfl, by omega, fun i hi => by rw [Nat.zero_add]; exact he i hi⟩
/-! ### Another name for where a row lay -/
def aliasL (x y : Nat) : List AC → List AC → Prop
  | [], [] => True
  | a :: r, b :: s => (b = a ∨ ∃ i sz n c, a = .slc x i sz n c ∧ b = .slc y i sz n c) ∧ aliasL x y r s
  | _, _ => False
theorem aliasL_conc {x y : Nat} {ρ ρ' : Val} {m m' : Mem} (hy : ρ' y = ρ x) (hs : ∀ z, (m z).isSome = true → (m' z).isSome = true) (hm : (m' y).isSome = true) (hρ : ∀ z, (m z).isSome = true → ρ' z = ρ z) : ∀ {a b : List AC}, aliasL x y a b → (∀ c ∈ a, c.ok ρ m) → b.map (AC.conc ρ') = a.map (AC.conc ρ) ∧ ∀ c ∈ b, c.ok ρ' m'
  | [], [], _, _ => ⟨rfl, fun c h => by cases h⟩
  | [], _ :: _, h, _ => h.elim
  | _ :: _, [], h, _ => h.elim
  | a :: r, b :: s, h, ho => by
    obtain ⟨h1, h2⟩ := aliasL_conc hy hs hm hρ h.2 fun c hc => ho c (.tail _ hc)
    have oa := ho a (.head _)
    have : b.conc ρ' = a.conc ρ ∧ b.ok ρ' m' := by
      rcases h.1 with rfl | ⟨i, sz, n, c, rfl, rfl⟩
      · exact ⟨AC.conc_mono hρ oa, AC.ok_mono hs hρ oa⟩
      · exact ⟨by simp only [AC.conc, hy], hm⟩
    refine ⟨by rw [List.map_cons, List.map_cons, h1, this.1], fun c hc => ?_⟩
    cases hc with
    | head => exact this.2
    | tail _ hc => exact h2 c hc
theorem GO.alias {ops : Array Oper} {rest : List Oper} {t : Nat → TV} {m : Mem} {z : Nat} {ty : TypeId} {cells : List AC} (x y : Nat) (cells' : List AC) (hx : (m x).isSome = true) (hy : m y = none) (hyb : Nat.blt y 1000 = true) (hz : m z = some (.var ty cells)) (hc : aliasL x y cells cells')
    (k : GO P E ops K rest ⟨t, up (up m y (some (.ro 0 0 fun _ => []))) z (some (.var ty cells'))⟩) : GO P E ops K rest ⟨t, m⟩ := by
  intro ρ a w hs
  have hyb : y < 1000 := by simpa [Nat.blt_eq] using hyb
  have hzy : z ≠ y := fun e => by subst e; rw [hy] at hz; cases hz
  obtain ⟨m', hm'⟩ : ∃ m', m' = up (up m y (some (.ro 0 0 fun _ => []))) z (some (.var ty cells')) := ⟨_, rfl⟩
  obtain ⟨ρ', hρ'⟩ : ∃ ρ' : Val, ρ' = up ρ y (ρ x) := ⟨_, rfl⟩
  have hρ : ∀ q, (m q).isSome = true → ρ' q = ρ q := fun q hq => by rw [hρ']; exact up_other _ _ (fun e => by subst e; simp [hy] at hq)
  have hsome : ∀ q, (m q).isSome = true → (m' q).isSome = true := fun q hq => by rw [hm']; exact isSome_up q (isSome_up q hq)
  have e1 : ρ' y = ρ x := by rw [hρ', up_same]
  have hmy : (m' y).isSome = true := by rw [hm', up_other _ _ (Ne.symm hzy), up_same]; rfl
  have cs : ∀ q b, m' q = some b → (q = z ∧ b = .var ty cells') ∨ (q = y ∧ b = .ro 0 0 fun _ => []) ∨ (q ≠ z ∧ q ≠ y ∧ m q = some b) := by
    intro q b hq
    rw [hm'] at hq
    by_cases h1 : q = z
    · subst h1; rw [up_same] at hq; injection hq with hq; exact .inl ⟨rfl, hq.symm⟩
    · rw [up_other _ _ h1] at hq
      by_cases h2 : q = y
      · subst h2; rw [up_same] at hq; injection hq with hq; exact .inr (.inl ⟨rfl, hq.symm⟩)
      · rw [up_other _ _ h2] at hq; exact .inr (.inr ⟨h1, h2, hq⟩)
  have hkz := hs.mem.ok z _ hz
  have hzs : (m z).isSome = true := by rw [hz]; rfl
  obtain ⟨a1, a2⟩ := aliasL_conc (ρ := ρ) (ρ' := ρ') (m := m) (m' := m') e1 hsome hmy hρ hc hkz.2.2.2
  have hmem : SatM E ρ' m' w := by
    refine ⟨hs.mem.fr, fun p hp => ?_, fun q b hq => ?_, fun q r b d hq hr hb hd hne => ?_⟩
    · have := hs.mem.bo p hp
      rw [hρ', up_other _ _ (by omega)]; exact this
    · rcases cs q b hq with ⟨rfl, rfl⟩ | ⟨rfl, rfl⟩ | ⟨h1, h2, h3⟩
      · exact ⟨by rw [hρ _ hzs]; exact hkz.1, by rw [hρ _ hzs]; exact hkz.2.1, by rw [hρ _ hzs, a1]; exact hkz.2.2.1, a2⟩
      · intro h0; omega
      · have hk := hs.mem.ok q b h3
        have ey : ρ' q = ρ q := hρ q (by rw [h3]; rfl)
        cases b with
        | var ty cells =>
          have hcm : cells.map (AC.conc ρ') = cells.map (AC.conc ρ) := List.map_congr_left fun c hm => AC.conc_mono hρ (hk.2.2.2 c hm)
          exact ⟨by rw [ey]; exact hk.1, by rw [ey]; exact hk.2.1, by rw [ey, hcm]; exact hk.2.2.1, fun c hc => AC.ok_mono hsome hρ (hk.2.2.2 c hc)⟩
        | arr ty sz n el room =>
          obtain ⟨k1, k2, a, ha, hs, he⟩ := hk
          exact ⟨by rw [ey]; exact k1, by rw [ey]; exact k2, a, by rw [ey]; exact ha, hs, he⟩
        | ro sz n el =>
          intro hn
          rw [ey]
          exact hk hn
    · have live : ∀ q b, m' q = some b → b.live → ∃ b0, m q = some b0 ∧ b0.live ∧ (b.own → b0.own) ∧ ρ' q = ρ q := by
        intro q b hq hl
        rcases cs q b hq with ⟨rfl, rfl⟩ | ⟨rfl, rfl⟩ | ⟨h1, h2, h3⟩
        · exact ⟨_, hz, trivial, fun _ => trivial, hρ _ hzs⟩
        · exact absurd hl (Nat.lt_irrefl 0)
        · exact ⟨b, h3, hl, id, hρ q (by rw [h3]; rfl)⟩
      obtain ⟨b0, g1, g2, g3, g4⟩ := live q b hq (Blk.own_live hb)
      obtain ⟨d0, g5, g6, _, g7⟩ := live r d hr hd
      rw [g4, g7]
      exact hs.mem.ne q r b0 d0 g1 g5 (g3 hb) g6 hne
  have := hs.move hmem hsome hρ
  rw [hm'] at this
  exact k ρ' a w this
/-! ### The same, where nothing is known of how long the list is -/
def accB (e : TypeId) (sz n c : Nat) (el : Nat → List Value) : Blk := match n with
  | 0 => .ro sz 0 el
  | n + 1 => .arr e sz (n + 1) el ((c - (n + 1)) * sz)
theorem accB_pos {e : TypeId} {sz n c : Nat} {el : Nat → List Value} (h : 0 < n) : accB e sz n c el = .arr e sz n el ((c - n) * sz) := by
  cases n with
  | zero => omega
  | succ n => rfl
theorem GO.moveAny (hT : Tab.fine P T) {ops : Array Oper} {rest : List Oper} {o : Oper} {y : Operand} {d : Nat} {t0 : Nat → TV} {m : Mem} {a : AV} (hg : o.guard = none) (hop : o.op = .move y ∨ o.op = .assign y) (hd : o.dst = some d) (hdN : Nat.blt d E.N = true) (hy : evT t0 y = .v a)
    (k : GO P E ops K rest ⟨up t0 d (.v a), m⟩) : GO P E ops K (o :: rest) ⟨t0, m⟩ := by
  have hev : evOp T d (evT t0) m o.op = .ok (.v a) m [] := by
    rcases hop with h | h <;> (rw [h]; simp only [evOp, forceTV_eq, hy])
  have hstep : stepE T E.N ops t0 m o = .ok (.v a) m [] := by
    unfold stepE
    have : dstOk E.N o.dst = true := by rw [hd]; exact hdN
    rw [this, hg, hd]
    exact hev
  exact GO.step (st := ⟨t0, m⟩) hT hstep trivial (by rw [hd]; exact k)
theorem G.newNil {c : Code} {t0 : Nat → TV} {m : Mem} (x sz : Nat) (el : Nat → List Value) (hx : m x = none) (k : G P E K c ⟨t0, up m x (some (.ro sz 0 el))⟩) : G P E K c ⟨t0, m⟩ :=
  fun ρ a w hs => k ρ a w (hs.move (hs.mem.newNil (x := x) (sz := sz) (el := el) hx) (fun y hy => isSome_up y hy) (fun _ _ => rfl))
theorem GO.appendAccB {ops : Array Oper} {rest : List Oper} {o : Oper} {s y : Operand} {t e size bytes d n c : Nat} {z : Value} {t0 : Nat → TV} {m : Mem} {el : Nat → List Value} {q c1 : Nat} {ty1 : TypeId} (vs : List Value) (tl : List (Nat × TV)) (ml : List (Nat × Blk)) (hp : ApT P t e size bytes z) (hg : o.guard = none) (hop : o.op = .call { callee := .builtin .append, args := #[s, y], argTypes := #[t, t] })
    (hd : o.dst = some d) (hdN : Nat.blt d E.N = true) (hdb : Nat.blt d 1000 = true) (hs : evT t0 s = .v (.c (accV d size n c))) (hx : m d = some (accB e size n c el))
    (hy : evT t0 y = .v (.c (.slc q 0 size 1 c1))) (hq : m q = some (.var ty1 (vs.map .k))) (hv : vs.length = size) (h1 : ∀ u ∈ vs, u.oneCell' = true)
    (hle : St.le E (St.of tl ml) ⟨t0, m⟩) (hfr : ∀ z b, (St.of tl ml).m z = some b → m z = some b ∧ z ≠ d) (hlen : ∀ k, k < n → (el k).length = size) (b1 : n + 1 ≤ maxLen) (b2 : (n + 1) * bytes ≤ 140737488355328)
    (k : ∀ c', n + 1 ≤ c' → GO P E ops K rest ⟨up (St.of tl ml).t d (.v (.c (.slc d 0 size (n + 1) c'))), up (St.of tl ml).m d (some (.arr e size (n + 1) (elN el n vs) ((c' - (n + 1)) * size)))⟩) : GO P E ops K (o :: rest) ⟨t0, m⟩ :=
  GO.appendAcc vs tl ml hp hg hop hd hdN hdb hs (fun h0 => by rw [hx, accB_pos h0]) hy hq hv h1 hle hfr hlen b1 b2 k
end
end Go.Sx
/- Chapter 35: rows of runs, and chains. -/
set_option linter.unusedVariables false
set_option linter.unusedSimpArgs false
set_option maxRecDepth 8000
set_option maxHeartbeats 1000000
namespace Go.Proofs.Ytmdgaifonpgojaa
open Go.Sx Go.RowKit
structure Rn where
  id : Int
  day : Int
  al : Int
  ma : Int
  fa : Int
  fm : Int
  A : Option Addr
  c : Nat
  l : List Cut
def r0 : Rn := ⟨0, 0, 0, 0, 0, 0, none, 0, []⟩
def rnC (r : Rn) : List Value := [I r.id, I r.day, I r.al, I r.ma, I r.fa, I r.fm, .slice r.A r.l.length r.c]
def elR (L : List Rn) (i : Nat) : List Value := rnC (L.getD i r0)
theorem apR : ApT Try.prog 37 24 7 72 (.agg #[I 0, I 0, I 0, I 0, I 0, I 0, .slice none 0 0]) := ⟨by kernel_rfl, by kernel_rfl, rfl, by decide⟩
theorem row_none {w : World} {A : Option Addr} {n sz : Nat} {el : Nat → List Value} (h : RdRow w A n sz el) (hA : A = none) : n = 0 := by
  by_cases h0 : 0 < n
  · obtain ⟨b, o, e, _⟩ := h h0
    rw [hA] at e; cases e
  · omega
theorem cloneR_any (A : Option Addr) (c n : Nat) (el : Nat → List Value) (w : World) (hl : RdRow w A n 7 el) (h2 : ∀ i, i < n → (el i).length = 7) (h1 : ∀ i, i < n → ∀ u ∈ el i, u.oneCell' = true) (hm : n ≤ 1000000) :
    Calls Try.prog 27 #[.slice A n c] w fun e w' => Ans w w' [.c (.r n 7 el)] e ∧ Below w.heap.size w w' := by
  refine enterAns tfine _ Try.func27 rfl 8 Try.ntmps27 [.c (.inp 1000 A n c)] [⟨1000, A, 7, n, el⟩] rfl rfl ⟨hl, trivial⟩ ⟨.inl ⟨rfl, rfl, rfl⟩, trivial⟩ ?_
  refine G.seqR tfine rfl trivial ?_
  refine G.seq (G.seqR tfine rfl trivial ?_)
  refine G.cond rfl (fun h => ?_) (fun h => ?_)
  · refine G.seqR tfine rfl trivial ?_
    have hA : A = none := by cases A <;> simp at h ⊢
    have h0 := row_none hl hA
    exact G.ret (endAns.ret ⟨⟨_, rfl, h0.symm, h0, fun a h => by cases h⟩, trivial⟩)
  refine G.skip ?_
  refine G.seqC tfine rfl trivial ?_
  refine GO.emptySliceS tfine rfl rfl rfl rfl rfl rfl rfl fun A0 hA0 => ?_
  refine GO.more tfine rfl trivial ?_
  refine GO.appendNew el apR rfl rfl rfl rfl rfl rfl rfl rfl (RowOf.ro rfl) h2 h1 (by unfold maxLen; omega) (by omega) (fun h0 => ?_) fun h0 c' hc' => ?_
  · refine GO.fin tfine rfl trivial ?_
    exact G.ret (endAns.ret ⟨⟨_, rfl, h0.symm, h0, hA0⟩, trivial⟩)
  · refine GO.fin tfine rfl trivial ?_
    exact G.ret (endAns.ret ⟨⟨_, rfl, hc', rfl, rfl, rfl, by omega, fun i hi => by rw [Nat.zero_add]⟩, trivial⟩)
theorem elR_one (L : List Rn) (i : Nat) : ∀ u ∈ elR L i, u.oneCell' = true := by
  intro u hu
  simp [elR, rnC] at hu
  rcases hu with rfl | rfl | rfl | rfl | rfl | rfl | rfl <;> rfl
/-! ### Searches -/
def firstR (q : Nat → Bool) : Nat → Nat → Int
  | _, 0 => -1
  | k, c + 1 => if q k = true then (k : Int) else firstR q (k + 1) c
theorem firstR_any (q : Nat → Bool) : ∀ (c k : Nat), decide (firstR q k c ≥ 0) = (List.range' k c).any q := by
  intro c
  induction c with
  | zero => intro k; rfl
  | succ c ih =>
    intro k
    rw [firstR, List.range'_succ, List.any_cons]
    by_cases h : q k = true
    · rw [if_pos h, h]
      simp
    · rw [if_neg h, ih]
      simp [h]
theorem indexFuncR_any (f : FuncId) (q : Rn → Bool) (hcf : ∀ args w, (callFunc f args).run Try.prog w = .ok (.enter f args) w) (A : Option Addr) (c : Nat) (L : List Rn) (w : World)
    (hf : ∀ i, i < L.length → ∀ w1, Below w.heap.size w w1 → Calls Try.prog f #[.agg (rnC (L.getD i r0)).toArray] w1 fun e w' => e = .returned (.bool (q (L.getD i r0))) ∧ Below w1.heap.size w1 w') (hl : RdRow w A L.length 7 (elR L)) (hm : L.length ≤ 9223372036854775807) :
    Calls Try.prog 57 #[.slice A L.length c, .func (.func f) #[] #[]] w fun e w' => e = .returned (I (firstR (fun k => q (L.getD k r0)) 0 L.length)) ∧ Below w.heap.size w w' := by
  refine enterPlain tfine Try.func57 rfl 19 Try.ntmps57 [.c (.inp 1000 A L.length c), .c (.k (.func (.func f) #[] #[]))] [⟨1000, A, 7, L.length, elR L⟩] rfl rfl ⟨hl, trivial⟩ ⟨.inl ⟨rfl, rfl, rfl⟩, trivial, trivial⟩ ?_
  refine G.seqR tfine rfl trivial ?_
  refine G.seq (G.seqR tfine rfl trivial ?_)
  refine G.block (G.loop (fun k : Nat => St.of [(0, .v (.c (.inp 1000 A L.length c))), (1, .v (.c (.k (.func (.func f) #[] #[])))), (7, .v (.c (.k (I L.length)))), (8, .v (.c (.k (I k))))] [(1000, .ro 7 L.length (elR L))])
    (fun k => k ≤ L.length ∧ firstR (fun k => q (L.getD k r0)) 0 L.length = firstR (fun k => q (L.getD k r0)) k (L.length - k)) (fun k => L.length - k) 0 ⟨by omega, by simp⟩ (St.le_of rfl ⟨⟨_, rfl, Blk.le_refl _⟩, trivial⟩ ⟨rfl, rfl, rfl, rfl, trivial⟩) ?_)
  rintro k ⟨hk, hfi⟩
  refine G.seqR tfine rfl trivial ?_
  refine G.seq (G.cond rfl (fun h => ?_) (fun h => ?_))
  rotate_left
  · have h := of_decide_eq_false h
    have : k = L.length := by omega
    subst this
    refine G.exit ?_
    refine G.seqR tfine rfl trivial ?_
    refine G.ret (endK.ret rfl ?_)
    rw [hfi]
    simp [firstR]
  have h := of_decide_eq_true h
  have hlt : k < L.length := by omega
  refine G.skip ?_
  refine G.seq (G.block ?_)
  refine G.seqR tfine rfl trivial ?_
  refine G.seqC tfine rfl ⟨by simpa using hlt, by omega, by omega, trivial⟩ ?_
  rw [Int.toNat_natCast]
  refine GO.callPlain (v := .bool (q (L.getD k r0))) rfl rfl rfl rfl hcf (fun ρ w1 hs hok => ?_) (GO.nil ?_)
  · have := hf k hlt w1 hs.fr.toBelow
    have e : (List.map (AV.conc ρ) [AV.agg ((rnC (L.getD k r0)).map .k)] ++ List.map (Cap.conc ρ) []).toArray = #[.agg (rnC (L.getD k r0)).toArray] := by
      simp [AV.conc, AC.conc, rnC]
    rw [← e] at this
    exact this
  have hs : L.length - k = (L.length - (k + 1)) + 1 := by omega
  rw [hs, firstR] at hfi
  refine G.cond (b := q (L.getD k r0)) rfl (fun h2 => ?_) (fun h2 => ?_)
  · refine G.seqR tfine rfl trivial ?_
    refine G.ret (endK.ret rfl ?_)
    rw [hfi, if_pos h2]
  · refine G.skip ?_
    refine G.reg tfine rfl trivial ?_
    rw [IntWalk.i64_in _ (by omega)]
    rw [h2, if_neg Bool.false_ne_true] at hfi
    exact ⟨k + 1, ⟨by omega, hfi⟩, (by show L.length - (k + 1) < L.length - k; omega), St.le_of rfl ⟨⟨_, rfl, Blk.le_refl _⟩, trivial⟩ ⟨rfl, rfl, rfl, by simp [up, I], trivial⟩⟩
theorem containsFuncR_any (f : FuncId) (q : Rn → Bool) (hcf : ∀ args w, (callFunc f args).run Try.prog w = .ok (.enter f args) w) (A : Option Addr) (c : Nat) (L : List Rn) (w : World)
    (hf : ∀ i, i < L.length → ∀ w1, Below w.heap.size w w1 → Calls Try.prog f #[.agg (rnC (L.getD i r0)).toArray] w1 fun e w' => e = .returned (.bool (q (L.getD i r0))) ∧ Below w1.heap.size w1 w') (hl : RdRow w A L.length 7 (elR L)) (hm : L.length ≤ 9223372036854775807) :
    Calls Try.prog 49 #[.slice A L.length c, .func (.func f) #[] #[]] w fun e w' => e = .returned (.bool ((List.range' 0 L.length).any fun k => q (L.getD k r0))) ∧ Below w.heap.size w w' := by
  rw [← firstR_any]
  refine enterPlain tfine Try.func49 rfl 9 Try.ntmps49 [.c (.inp 1000 A L.length c), .c (.k (.func (.func f) #[] #[]))] [⟨1000, A, 7, L.length, elR L⟩] rfl rfl ⟨hl, trivial⟩ ⟨.inl ⟨rfl, rfl, rfl⟩, trivial, trivial⟩ ?_
  refine G.seqR tfine rfl trivial ?_
  refine G.seqC tfine rfl trivial ?_
  refine GO.callPlain rfl rfl rfl rfl (fun args w => Try.call57 args w) (fun ρ w1 hs hok => indexFuncR_any f q hcf A c L w1 (fun i hi w2 hb => hf i hi w2 (hs.fr.toBelow.trans (hb.mono hs.fr.size))) (hs.row (cap := c) rfl (hok _ List.mem_cons_self)) hm) ?_
  refine GO.fin tfine rfl trivial ?_
  exact G.ret (endK.ret rfl rfl)
def fewR (r : Rn) : Bool := decide ((r.l.length : Int) ≤ 17)
theorem notFew_any (r : Rn) (w : World) (hl : RdRow w r.A r.l.length 3 (elC r.l)) : Calls Try.prog 50 #[.agg (rnC r).toArray] w fun e w' => e = .returned (.bool (!fewR r)) ∧ Below w.heap.size w w' := by
  refine enterPlain tfine Try.func50 rfl 6 Try.ntmps50 [.agg [.k (I r.id), .k (I r.day), .k (I r.al), .k (I r.ma), .k (I r.fa), .k (I r.fm), .inp 1000 r.A r.l.length r.c]] [⟨1000, r.A, 3, r.l.length, elC r.l⟩] rfl rfl ⟨hl, trivial⟩ ⟨⟨trivial, trivial, trivial, trivial, trivial, trivial, .inl ⟨rfl, rfl, rfl⟩, trivial⟩, trivial⟩ ?_
  refine G.seqR tfine rfl trivial ?_
  refine G.seqC tfine rfl trivial ?_
  refine GO.callPlain (v := .bool (fewR r)) rfl rfl rfl rfl (fun args w => Try.call11 args w) (fun ρ w1 hs hok => spileref35_Few_any _ _ _ _ _ _ r.A r.c r.l w1 (hs.row (cap := r.c) rfl ((hok _ List.mem_cons_self) _ (List.mem_cons_of_mem _ (List.mem_cons_of_mem _ (List.mem_cons_of_mem _ (List.mem_cons_of_mem _ (List.mem_cons_of_mem _ (List.mem_cons_of_mem _ List.mem_cons_self))))))))) ?_
  refine GO.fin tfine rfl trivial ?_
  exact G.ret (endK.ret rfl rfl)
def smallB (L : List Rn) : Bool := (decide ((L.length : Int) ≤ 8) || ((L.length : Int) == 1025)) && !((List.range' 0 L.length).any fun k => !fewR (L.getD k r0))
theorem small_any (A : Option Addr) (c : Nat) (L : List Rn) (w : World) (hl : RdRow w A L.length 7 (elR L)) (hin : ∀ i, i < L.length → RdRow w (L.getD i r0).A (L.getD i r0).l.length 3 (elC (L.getD i r0).l)) (hm : L.length ≤ 9223372036854775807) :
    Calls Try.prog 25 #[.slice A L.length c] w fun e w' => e = .returned (.bool (smallB L)) ∧ Below w.heap.size w w' := by
  refine enterPlain tfine Try.func25 rfl 16 Try.ntmps25 [.c (.inp 1000 A L.length c)] [⟨1000, A, 7, L.length, elR L⟩] rfl rfl ⟨hl, trivial⟩ ⟨.inl ⟨rfl, rfl, rfl⟩, trivial⟩ ?_
  refine G.seqR tfine rfl trivial ?_
  refine G.seqC tfine rfl ?_ ?_
  · first | trivial | (simp [AllP, condB]; done) | (simp only [AllP]; and_intros <;> first | trivial | decide | omega) | (simp [AllP, condB]; intros; and_intros <;> first | assumption | omega) | (simp [AllP, condB]; intros; simp_all; done) | (simp [AllP, condB]; intros; simp_all; omega) | (simp [AllP, condB]; omega)
  refine GO.callGuard (.bool ((List.range' 0 L.length).any fun k => !fewR (L.getD k r0))) rfl rfl rfl (by first | exact trivial | exact ⟨id, trivial⟩ | exact ⟨id, id, trivial⟩ | exact ⟨id, id, id, trivial⟩ | exact ⟨id, id, id, id, trivial⟩) rfl rfl (fun args w => Try.call49 args w) rfl (fun _ m' hle ρ w1 hs hok => ?_) ?_
  · exact containsFuncR_any 50 (fun r => !fewR r) (fun args w => Try.call50 args w) A c L w1 (fun i hi w2 hb => notFew_any (L.getD i r0) w2 ((hin i hi).below (hs.fr.toBelow.trans (hb.mono hs.fr.size)))) (hs.row (cap := c) (hle.at rfl) (hok _ List.mem_cons_self)) hm
  refine GO.fin tfine rfl ?_ ?_
  · first | trivial | (simp [AllP, condB]; done) | (simp only [AllP]; and_intros <;> first | trivial | decide | omega) | (simp [AllP, condB]; intros; and_intros <;> first | assumption | omega) | (simp [AllP, condB]; intros; simp_all; done) | (simp [AllP, condB]; intros; simp_all; omega) | (simp [AllP, condB]; omega)
  exact G.ret (endK.ret rfl rfl)
end Go.Proofs.Ytmdgaifonpgojaa
/- Chapter 35: chains of runs, and the law RunChains. -/
set_option linter.unusedVariables false
set_option linter.unusedSimpArgs false
set_option maxRecDepth 8000
set_option maxHeartbeats 1000000
namespace Go.Proofs.Ytmdgaifonpgojaa
open Go.Sx Go.RowKit
def Rn.bad (r : Rn) : Bool := okB r.id r.day r.al r.ma r.fa r.fm r.l
def Rn.fei (r : Rn) : Int × Int × Int := feiM r.id r.day r.al r.ma r.fa r.fm r.l
def ordB (r p : Rn) : Bool := decide (r.id ≤ p.id) || decide (r.day < p.day)
def misB (r : Rn) (a m : Int) : Bool := (r.fa != a) || (r.fm != m)
def chF (L : List Rn) : Nat → Nat → Int → Int → Int × Int
  | _, 0, _, _ => (-1, 0)
  | k, c + 1, a, m => if (L.getD k r0).bad = true then (k, 1) else if (decide ((k : Int) > 0) && ordB (L.getD k r0) (L.getD (k - 1) r0)) = true then (k, 5) else if misB (L.getD k r0) a m = true then (k, 10) else chF L (k + 1) c (L.getD k r0).fei.1 (L.getD k r0).fei.2.1
def chM (L : List Rn) : Int × Int := if decide ((L.length : Int) > 1024) = true then (-1, 8) else chF L 0 L.length 0 0
theorem chF_step (L : List Rn) {k n : Nat} (h : k < n) (a m : Int) : chF L k (n - k) a m = if (L.getD k r0).bad = true then ((k : Int), 1) else if (decide ((k : Int) > 0) && ordB (L.getD k r0) (L.getD (k - 1) r0)) = true then ((k : Int), 5) else if misB (L.getD k r0) a m = true then ((k : Int), 10) else chF L (k + 1) (n - (k + 1)) (L.getD k r0).fei.1 (L.getD k r0).fei.2.1 := by
  have : n - k = (n - (k + 1)) + 1 := by omega
  rw [this, chF]
theorem fne35 {b : Bool} (h : b = false) : ¬ b = true := by rw [h]; exact Bool.false_ne_true
theorem cmpF : CmpT Try.prog 44 (Try.prog.fieldsOf 44) := ⟨by kernel_rfl, by kernel_rfl, by kernel_rfl, by kernel_rfl⟩
theorem bad_fei (r : Rn) : (r.fei.2.2 != 0) = r.bad := by
  unfold Rn.fei feiM Rn.bad
  split
  · rename_i h; rw [h]; rfl
  · rename_i h; rw [Bool.eq_false_iff.2 h]; rfl
theorem chain_any (A : Option Addr) (c : Nat) (L : List Rn) (w : World) (hl : RdRow w A L.length 7 (elR L)) (hin : ∀ i, i < L.length → RdRow w (L.getD i r0).A (L.getD i r0).l.length 3 (elC (L.getD i r0).l)) (hf : ∀ i, i < L.length → (L.getD i r0).l.length ≤ 17) :
    Calls Try.prog 26 #[.slice A L.length c] w fun e w' => e = .returned (.tuple #[I (chM L).1, I (chM L).2]) ∧ Below w.heap.size w w' := by
  refine enterPlain tfine Try.func26 rfl 66 Try.ntmps26 [.c (.inp 1000 A L.length c)] [⟨1000, A, 7, L.length, elR L⟩] rfl rfl ⟨hl, trivial⟩ ⟨.inl ⟨rfl, rfl, rfl⟩, trivial⟩ ?_
  refine G.seqR tfine rfl trivial ?_
  refine G.seq (G.seqR tfine rfl trivial ?_)
  refine G.cond (b := decide ((L.length : Int) > 1024)) rfl (fun h => ?_) (fun h => ?_)
  · refine G.seqR tfine rfl trivial ?_
    refine G.ret (endK.ret rfl ?_)
    rw [chM, if_pos h]
  have hch : chM L = chF L 0 L.length 0 0 := by rw [chM, if_neg (fne35 h)]
  rw [hch]
  have h := of_decide_eq_false h
  refine G.skip ?_
  refine G.seqR tfine rfl trivial ?_
  refine G.seq (G.seqR tfine rfl trivial ?_)
  refine G.block (G.loop (fun z : Nat × Int × Int => St.of [(0, .v (.c (.inp 1000 A L.length c))), (4, .v (.c (.ptr 4 0 0 0))), (10, .v (.c (.inp 1000 A L.length c))), (11, .v (.c (.k (I L.length)))), (12, .v (.c (.k (I z.1))))] [(4, .var 44 [.k (I z.2.1), .k (I z.2.2)]), (1000, .ro 7 L.length (elR L))])
    (fun z => z.1 ≤ L.length ∧ chF L 0 L.length 0 0 = chF L z.1 (L.length - z.1) z.2.1 z.2.2) (fun z => L.length - z.1) (0, 0, 0) ⟨by simp, by simp⟩ (St.le_of rfl ⟨⟨_, rfl, Blk.le_refl _⟩, ⟨_, rfl, Blk.le_refl _⟩, trivial⟩ ⟨rfl, rfl, rfl, rfl, rfl, trivial⟩) ?_)
  rintro ⟨k, a, m⟩ ⟨hk, hfi⟩
  dsimp only at hk hfi ⊢
  refine G.seqR tfine rfl trivial ?_
  refine G.seq (G.cond (b := decide ((k : Int) < (L.length : Int))) rfl (fun h2 => ?_) (fun h2 => ?_))
  rotate_left
  · have h2 := of_decide_eq_false h2
    have : k = L.length := by omega
    subst this
    refine G.exit ?_
    refine G.seqR tfine rfl trivial ?_
    refine G.ret (endK.ret rfl ?_)
    rw [hfi, Nat.sub_self]
    rfl
  have h2 := of_decide_eq_true h2
  have hlt : k < L.length := by omega
  rw [chF_step L hlt] at hfi
  have hr1 := hin k hlt
  have hr2 := hf k hlt
  obtain ⟨r, hr⟩ : ∃ r, r = L.getD k r0 := ⟨_, rfl⟩
  obtain ⟨p, hp⟩ : ∃ p, p = L.getD (k - 1) r0 := ⟨_, rfl⟩
  have her : elR L k = rnC r := by rw [elR, hr]
  have hep : elR L (k - 1) = rnC p := by rw [elR, hp]
  rw [← hr, ← hp] at hfi
  rw [← hr] at hr1 hr2
  have e0 : (IntKind.i64.wrap ((k : Int) - 1)).toNat = k - 1 := by
    rw [IntWalk.i64_in _ (by omega)]; omega
  refine G.skip ?_
  refine G.seq (G.block ?_)
  refine G.seqR tfine rfl ⟨by simpa using hlt, by omega, by omega, trivial⟩ ?_
  rw [Int.toNat_natCast, ← hr]
  refine G.seq (G.block ?_)
  refine G.seqC tfine rfl trivial ?_
  refine GO.callPlain (v := I (refCheckE r.id r.day r.al r.ma r.fa r.fm r.l)) rfl rfl rfl rfl (fun args w => Try.call23 args w) (fun ρ w1 hs hok => checkR_any r.id r.day r.al r.ma r.fa r.fm r.A r.c r.l w1 (hr1.below hs.fr.toBelow) hr2) ?_
  refine GO.fin tfine rfl trivial ?_
  refine G.cond (b := r.bad) rfl (fun h3 => ?_) (fun h3 => ?_)
  · refine G.seqR tfine rfl trivial ?_
    refine G.ret (endK.ret rfl ?_)
    rw [hfi, if_pos h3]
  rw [if_neg (fne35 h3)] at hfi
  refine G.seqD tfine hmix [0, 1, 3, 7, 15, 7, 7, 71, 231, 487, 999, 2047, 4095, 8191, 16383, 8191, 8191, 73727, 237567, 499711, 1023999, 2097151, 4194303, 8388607, 16777215] [] rfl rfl rfl rfl ?_ ?_
  · rw [e0, IntWalk.i64_in ((k : Int) - 1) (by omega)]
    simp [AllP, condB]
    and_intros <;> intros <;> first | omega | (and_intros <;> first | assumption | omega)
  rw [e0, ← hp]
  refine G.cond (b := (decide ((k : Int) > 0) && ordB r p)) rfl (fun h4 => ?_) (fun h4 => ?_)
  · refine G.seqR tfine rfl trivial ?_
    refine G.ret (endK.ret rfl ?_)
    rw [hfi, if_pos h4]
  rw [if_neg (fne35 h4)] at hfi
  refine G.seqC tfine rfl trivial ?_
  refine GO.structEq true [I a, I m] [I r.fa, I r.fm] (!((a == r.fa) && (m == r.fm))) rfl cmpF rfl rfl rfl rfl rfl (by kernel_rfl) ?_
  refine GO.fin tfine rfl trivial ?_
  have hmis : misB r a m = !((a == r.fa) && (m == r.fm)) := by
    rw [Bool.eq_iff_iff]
    simp only [misB, Bool.or_eq_true, Bool.not_eq_true', Bool.and_eq_false_iff, bne_iff_ne, beq_eq_false_iff_ne]
    omega
  rw [hmis] at hfi
  refine G.cond (b := (!((a == r.fa) && (m == r.fm)))) rfl (fun h5 => ?_) (fun h5 => ?_)
  · refine G.seqR tfine rfl trivial ?_
    refine G.ret (endK.ret rfl ?_)
    rw [hfi, if_pos h5]
  rw [if_neg (fne35 h5)] at hfi
  refine G.skip ?_
  refine G.regC tfine rfl trivial ?_
  refine GO.callPlain (v := .tuple #[I r.fei.1, I r.fei.2.1, I r.fei.2.2]) rfl rfl rfl rfl (fun args w => Try.call21 args w) (fun ρ w1 hs hok => runFeints_any r.id r.day r.al r.ma r.fa r.fm r.A r.c r.l w1 (hr1.below hs.fr.toBelow) hr2) ?_
  refine GO.fin tfine rfl trivial ?_
  refine G.reg tfine rfl trivial ?_
  rw [IntWalk.i64_in ((k : Int) + 1) (by omega)]
  exact ⟨(k + 1, r.fei.1, r.fei.2.1), ⟨by show k + 1 ≤ L.length; omega, hfi⟩, (by show L.length - (k + 1) < L.length - k; omega), St.le_of rfl ⟨⟨_, rfl, Blk.le_refl _⟩, ⟨_, rfl, Blk.le_refl _⟩, trivial⟩ ⟨rfl, rfl, rfl, rfl, by simp [up, I], trivial⟩⟩
theorem refChain_any (A : Option Addr) (c : Nat) (L : List Rn) (w : World) (hl : RdRow w A L.length 7 (elR L)) (hin : ∀ i, i < L.length → RdRow w (L.getD i r0).A (L.getD i r0).l.length 3 (elC (L.getD i r0).l)) (hf : ∀ i, i < L.length → (L.getD i r0).l.length ≤ 17) :
    Calls Try.prog 28 #[.slice A L.length c] w fun e w' => e = .returned (.tuple #[I (chM L).1, I (chM L).2]) ∧ Below w.heap.size w w' := by
  refine enterPlain tfine Try.func28 rfl 81 Try.ntmps28 [.c (.inp 1000 A L.length c)] [⟨1000, A, 7, L.length, elR L⟩] rfl rfl ⟨hl, trivial⟩ ⟨.inl ⟨rfl, rfl, rfl⟩, trivial⟩ ?_
  refine G.seqR tfine rfl trivial ?_
  refine G.seq (G.seqR tfine rfl trivial ?_)
  refine G.cond (b := decide ((L.length : Int) > 1024)) rfl (fun h => ?_) (fun h => ?_)
  · refine G.seqR tfine rfl trivial ?_
    refine G.ret (endK.ret rfl ?_)
    rw [chM, if_pos h]
  have hch : chM L = chF L 0 L.length 0 0 := by rw [chM, if_neg (fne35 h)]
  rw [hch]
  have h := of_decide_eq_false h
  refine G.skip ?_
  refine G.seqR tfine rfl trivial ?_
  refine G.seq (G.seqR tfine rfl trivial ?_)
  refine G.block (G.loop (fun z : Nat × Int × Int => St.of [(0, .v (.c (.inp 1000 A L.length c))), (4, .v (.c (.k (I z.2.1)))), (5, .v (.c (.k (I z.2.2)))), (6, .v (.c (.k (I z.1))))] [(1000, .ro 7 L.length (elR L))])
    (fun z => z.1 ≤ L.length ∧ chF L 0 L.length 0 0 = chF L z.1 (L.length - z.1) z.2.1 z.2.2) (fun z => L.length - z.1) (0, 0, 0) ⟨by simp, by simp⟩ (St.le_of rfl ⟨⟨_, rfl, Blk.le_refl _⟩, trivial⟩ ⟨rfl, rfl, rfl, rfl, trivial⟩) ?_)
  rintro ⟨k, a, m⟩ ⟨hk, hfi⟩
  dsimp only at hk hfi ⊢
  refine G.seq (G.seqR tfine rfl trivial ?_)
  refine G.cond (b := decide ((k : Int) < (L.length : Int))) rfl (fun h2 => ?_) (fun h2 => ?_)
  rotate_left
  · have h2 := of_decide_eq_false h2
    have : k = L.length := by omega
    subst this
    refine G.exit ?_
    refine G.seqR tfine rfl trivial ?_
    refine G.ret (endK.ret rfl ?_)
    rw [hfi, Nat.sub_self]
    rfl
  have h2 := of_decide_eq_true h2
  have hlt : k < L.length := by omega
  rw [chF_step L hlt] at hfi
  have hr1 := hin k hlt
  have hr2 := hf k hlt
  obtain ⟨r, hr⟩ : ∃ r, r = L.getD k r0 := ⟨_, rfl⟩
  obtain ⟨p, hp⟩ : ∃ p, p = L.getD (k - 1) r0 := ⟨_, rfl⟩
  rw [← hr, ← hp] at hfi
  rw [← hr] at hr1 hr2
  have e0 : (IntKind.i64.wrap ((k : Int) - 1)).toNat = k - 1 := by
    rw [IntWalk.i64_in _ (by omega)]; omega
  refine G.skip ?_
  refine G.seq (G.block ?_)
  refine G.seqC tfine rfl ⟨by simpa using hlt, by omega, by omega, trivial⟩ ?_
  rw [Int.toNat_natCast, ← hr]
  refine GO.callPlain (v := .tuple #[I r.fei.1, I r.fei.2.1, I r.fei.2.2]) rfl rfl rfl rfl (fun args w => Try.call22 args w) (fun ρ w1 hs hok => refFeints_any r.id r.day r.al r.ma r.fa r.fm r.A r.c r.l w1 (hr1.below hs.fr.toBelow) hr2) ?_
  refine GO.fin tfine rfl trivial ?_
  refine G.seq (G.seqR tfine rfl trivial ?_)
  refine G.cond (b := (r.fei.2.2 != 0)) rfl (fun h3 => ?_) (fun h3 => ?_)
  · refine G.seqR tfine rfl trivial ?_
    refine G.ret (endK.ret rfl ?_)
    rw [bad_fei] at h3
    rw [hfi, if_pos h3]
  rw [bad_fei] at h3
  rw [if_neg (fne35 h3)] at hfi
  refine G.skip ?_
  refine G.seq ?_
  refine G.seqD tfine hmix [0, 1, 3, 7, 7, 31, 63, 127, 7, 7, 519, 1799, 3847, 7943, 16383, 32767, 65535, 65535, 262143, 524287, 1048575, 65535, 65535, 4259839, 14745599, 31522815, 65077247, 134217727, 268435455, 536870911] [] rfl rfl rfl rfl ?_ ?_
  · rw [e0, IntWalk.i64_in ((k : Int) - 1) (by omega)]
    simp [AllP, condB]
    and_intros <;> intros <;> first | omega | (and_intros <;> first | assumption | omega)
  rw [e0, Int.toNat_natCast, ← hr, ← hp]
  refine G.cond (b := (decide ((k : Int) > 0) && ordB r p)) rfl (fun h4 => ?_) (fun h4 => ?_)
  · refine G.seqR tfine rfl trivial ?_
    refine G.ret (endK.ret rfl ?_)
    rw [hfi, if_pos h4]
  rw [if_neg (fne35 h4)] at hfi
  refine G.skip ?_
  refine G.seq (G.seqR tfine rfl ?_ ?_)
  · first | trivial | (simp [AllP, condB]; done) | (simp only [AllP]; and_intros <;> first | trivial | decide | omega) | (simp [AllP, condB]; intros; and_intros <;> first | assumption | omega) | (simp [AllP, condB]; intros; simp_all; done) | (simp [AllP, condB]; intros; simp_all; omega) | (simp [AllP, condB]; omega)
  rw [Int.toNat_natCast, ← hr]
  refine G.cond (b := misB r a m) rfl (fun h5 => ?_) (fun h5 => ?_)
  · refine G.seqR tfine rfl trivial ?_
    refine G.ret (endK.ret rfl ?_)
    rw [hfi, if_pos h5]
  rw [if_neg (fne35 h5)] at hfi
  refine G.skip ?_
  refine G.reg tfine rfl trivial ?_
  refine G.reg tfine rfl trivial ?_
  rw [IntWalk.i64_in ((k : Int) + 1) (by omega)]
  exact ⟨(k + 1, r.fei.1, r.fei.2.1), ⟨by show k + 1 ≤ L.length; omega, hfi⟩, (by show L.length - (k + 1) < L.length - k; omega), St.le_of rfl ⟨⟨_, rfl, Blk.le_refl _⟩, trivial⟩ ⟨rfl, rfl, rfl, by simp [up, I], trivial⟩⟩
theorem RunChains_any (A : Option Addr) (c : Nat) (L : List Rn) (w : World) (hl : RdRow w A L.length 7 (elR L)) (hin : ∀ i, i < L.length → RdRow w (L.getD i r0).A (L.getD i r0).l.length 3 (elC (L.getD i r0).l)) (hm : L.length ≤ 9223372036854775807) :
    Calls Try.prog 8 #[.slice A L.length c] w fun e w' => e = .returned (.bool true) ∧ Below w.heap.size w w' := by
  refine enterPlain tfine Try.func8 rfl 31 Try.ntmps8 [.c (.inp 1000 A L.length c)] [⟨1000, A, 7, L.length, elR L⟩] rfl rfl ⟨hl, trivial⟩ ⟨.inl ⟨rfl, rfl, rfl⟩, trivial⟩ ?_
  refine G.seqR tfine rfl trivial ?_
  refine G.seq ?_
  refine G.seqC tfine rfl trivial ?_
  refine GO.callPlain (v := .bool true) rfl rfl rfl rfl (fun args w => Try.call10 args w) (fun ρ w hs hok => awake_any w) ?_
  refine GO.fin tfine rfl trivial ?_
  refine G.cond_false rfl ?_
  refine G.skip ?_
  refine G.seq ?_
  refine G.seqC tfine rfl trivial ?_
  refine GO.callPlain (v := .bool (smallB L)) rfl rfl rfl rfl (fun args w => Try.call25 args w) (fun ρ w1 hs hok => small_any A c L w1 (hs.row (cap := c) rfl (hok _ List.mem_cons_self)) (fun i hi => (hin i hi).below hs.fr.toBelow) hm) ?_
  refine GO.fin tfine rfl trivial ?_
  refine G.cond (b := !(smallB L)) rfl (fun h => ?_) (fun h => ?_)
  · refine G.seqR tfine rfl trivial ?_
    exact G.ret (endK.ret rfl rfl)
  have hsm : L.length ≤ 1025 ∧ ∀ i, i < L.length → (L.getD i r0).l.length ≤ 17 := by
    simp only [smallB, Bool.not_eq_false', Bool.and_eq_true, Bool.or_eq_true, decide_eq_true_eq, beq_iff_eq, Bool.not_eq_true'] at h
    refine ⟨by omega, fun i hi => ?_⟩
    have := List.any_eq_false.1 h.2 i (by simp [List.mem_range']; omega)
    simp only [fewR, Bool.not_eq_true, Bool.not_eq_false', decide_eq_true_eq] at this
    omega
  refine G.skip ?_
  refine G.seqC tfine rfl trivial ?_
  refine GO.callAns [.c (.r L.length 7 (elR L))] [800] rfl rfl rfl rfl ⟨rfl, rfl, rfl, trivial⟩ (fun args w => Try.call27 args w) (fun ρ w1 hs hok => cloneR_any A c L.length (elR L) w1 (hs.row (cap := c) rfl (hok _ List.mem_cons_self)) (fun i hi => rfl) (fun i hi => elR_one L i) (by omega)) ?_
  refine GO.callPlain (v := .tuple #[I (chM L).1, I (chM L).2]) rfl rfl rfl rfl (fun args w => Try.call26 args w) (fun ρ w1 hs hok => chain_any _ _ L w1 (hs.rowR rfl (hok _ List.mem_cons_self) (Nat.le_refl _)) (fun i hi => (hin i hi).below hs.fr.toBelow) hsm.2) ?_
  refine GO.fin tfine rfl trivial ?_
  refine G.seqC tfine rfl trivial ?_
  refine GO.callPlain (v := .tuple #[I (chM L).1, I (chM L).2]) rfl rfl rfl rfl (fun args w => Try.call28 args w) (fun ρ w1 hs hok => refChain_any A c L w1 (hs.row (cap := c) rfl (hok _ List.mem_cons_self)) (fun i hi => (hin i hi).below hs.fr.toBelow) hsm.2) ?_
  refine GO.fin tfine rfl trivial ?_
  refine G.seqR tfine rfl ?_ ?_
  · first | trivial | (simp [AllP, condB]; done) | (simp only [AllP]; and_intros <;> first | trivial | decide | omega) | (simp [AllP, condB]; intros; and_intros <;> first | assumption | omega) | (simp [AllP, condB]; intros; simp_all; done) | (simp [AllP, condB]; intros; simp_all; omega) | (simp [AllP, condB]; omega)
  refine G.ret (endK.ret rfl ?_)
  simp
end Go.Proofs.Ytmdgaifonpgojaa
/- Chapter 35: the law RunChains for every row of runs. -/
set_option linter.unusedVariables false
namespace Go.Proofs.Ytmdgaifonpgojaa
open Go.Sx Go.RowKit
instance : Inhabited Rn := ⟨r0⟩
theorem rowR {w : World} {A : Option Addr} {ess : List (List Value)} {d : Nat} (hr : RdRow w A ess.length 7 (fun i => ess.getD i [])) (hw : ∀ es ∈ ess, LeafAll (Leaf.says w (d + 2)) [.int .i64, .int .i64, .int .i64, .int .i64, .int .i64, .int .i64, .row 3 [.int .i64, .int .i64, .int .i64]] es) :
    ∃ L : List Rn, L.length = ess.length ∧ RdRow w A L.length 7 (elR L) ∧ (∀ i, i < L.length → RdRow w (L.getD i r0).A (L.getD i r0).l.length 3 (elC (L.getD i r0).l)) ∧ ∀ i, i < L.length → (L.getD i r0).A = none → (L.getD i r0).l.length = 0 := by
  obtain ⟨L, h1, h2⟩ := pick_list (p := fun (r : Rn) es => es = rnC r ∧ RdRow w r.A r.l.length 3 (elC r.l) ∧ (r.A = none → r.l.length = 0)) (l := ess) fun es he => by
    obtain ⟨_, _, rfl, ⟨a0, rfl, _⟩, e0⟩ := (hw es he).cons
    obtain ⟨_, _, rfl, ⟨a1, rfl, _⟩, e1⟩ := e0.cons
    obtain ⟨_, _, rfl, ⟨a2, rfl, _⟩, e2⟩ := e1.cons
    obtain ⟨_, _, rfl, ⟨a3, rfl, _⟩, e3⟩ := e2.cons
    obtain ⟨_, _, rfl, ⟨a4, rfl, _⟩, e4⟩ := e3.cons
    obtain ⟨_, _, rfl, ⟨a5, rfl, _⟩, e5⟩ := e4.cons
    obtain ⟨_, _, rfl, u, e6⟩ := e5.cons
    obtain rfl := e6.nil
    obtain ⟨B, _, cap, rfl, hn, hm, ess2, rfl, hr2, hw2⟩ := u
    obtain ⟨l, q1, q2⟩ := rowC hr2 hw2
    refine ⟨⟨a0, a1, a2, a3, a4, a5, B, cap, l⟩, by simp only [rnC, q1], q2, fun h => ?_⟩
    simp only [q1]
    exact hn h
  refine ⟨L, h1, ?_, fun i hi => (h2 i (by omega)).2.1, fun i hi => (h2 i (by omega)).2.2⟩
  rw [h1]
  refine hr.congr fun i hi => ?_
  rw [List.getD_eq_getElem?_getD, List.getElem?_eq_getElem hi]
  exact (h2 i hi).1.symm
theorem RunChains_row (A : Option Addr) (c : Nat) (ess : List (List Value)) (w : World) (hr : RdRow w A ess.length 7 (fun i => ess.getD i [])) (hn : A = none → ess.length = 0) (hm : ess.length ≤ maxLen) (hw : ∀ es ∈ ess, LeafAll (Leaf.says w 3) [.int .i64, .int .i64, .int .i64, .int .i64, .int .i64, .int .i64, .row 3 [.int .i64, .int .i64, .int .i64]] es) :
    Calls Try.prog 8 #[.slice A ess.length c] w fun e w' => e = .returned (.bool true) ∧ Below w.heap.size w w' := by
  obtain ⟨L, h1, h2, h3, _⟩ := rowR hr hw
  rw [← h1] at hm ⊢
  exact RunChains_any A c L w h2 h3 (by unfold maxLen at hm; omega)
end Go.Proofs.Ytmdgaifonpgojaa
/- Chapter 35: the law RunReturns. -/
set_option linter.unusedVariables false
set_option linter.unusedSimpArgs false
set_option maxRecDepth 8000
set_option maxHeartbeats 1000000
namespace Go.Proofs.Ytmdgaifonpgojaa
open Go.Sx Go.RowKit
theorem run_flow {r : Rn} (h : r.bad = false) (hm : r.l.length ≤ 17) : ∃ hh rs ms fe h2 r2 m2 f2 : Int, sumM r.id r.day r.al r.ma r.fa r.fm r.l 2 = (hh, h2, 0) ∧ sumM r.id r.day r.al r.ma r.fa r.fm r.l 4 = (rs, r2, 0) ∧ balM r.id r.day r.al r.ma r.fa r.fm r.l = (ms, m2, 0) ∧ r.fei = (fe, f2, 0) ∧
    r.al + r.fa = hh + rs + ms + fe ∧ (0 ≤ hh ∧ hh ≤ 182536110080000) ∧ (0 ≤ rs ∧ rs ≤ 182536110080000) ∧ (0 ≤ fe ∧ fe ≤ 365072220160000) ∧ (0 ≤ r.al ∧ r.al ≤ 10737418240000) ∧ (0 ≤ r.fa ∧ r.fa ≤ 10737418240000) := by
  have hn : ¬ okB r.id r.day r.al r.ma r.fa r.fm r.l = true := fne35 h
  have ok := okB_run h
  have b1 := kf_bound ok.inl hm 1
  have b2 := kf_bound ok.inl hm 2
  have b3 := kf_bound ok.inl hm 3
  have b4 := kf_bound ok.inl hm 4
  have ha := (all_kinds ok).1
  refine ⟨(kf r.l 2).1, (kf r.l 4).1, r.al + r.fa - (psum r.l (kindB 0)).1, (kf r.l 1).1 + (kf r.l 3).1, (kf r.l 2).2, (kf r.l 4).2, r.ma + r.fm - (psum r.l (kindB 0)).2, (kf r.l 1).2 + (kf r.l 3).2, ?_, ?_, ?_, ?_, by omega, by omega, by omega, by omega, ok.ch.1, ok.fe.1⟩
  · rw [sumM, if_neg hn, if_neg (by decide)]; rfl
  · rw [sumM, if_neg hn, if_neg (by decide)]; rfl
  · rw [balM, if_neg hn]
  · rw [Rn.fei, feiM, if_neg hn]
theorem chF_bound (L : List Rn) : ∀ (c k : Nat) (a m : Int), -1 ≤ (chF L k c a m).1 ∧ (chF L k c a m).1 < (k + c : Nat) := by
  intro c
  induction c with
  | zero => intro k a m; rw [chF]; omega
  | succ c ih =>
    intro k a m
    rw [chF]
    split
    · simp only; omega
    split
    · simp only; omega
    split
    · simp only; omega
    have := ih (k + 1) (L.getD k r0).fei.1 (L.getD k r0).fei.2.1
    omega
theorem RunReturns_any (A : Option Addr) (c : Nat) (L : List Rn) (w : World) (hl : RdRow w A L.length 7 (elR L)) (hin : ∀ i, i < L.length → RdRow w (L.getD i r0).A (L.getD i r0).l.length 3 (elC (L.getD i r0).l)) (hAn : ∀ i, i < L.length → (L.getD i r0).A = none → (L.getD i r0).l.length = 0) (hm : L.length ≤ 9223372036854775807) :
    Calls Try.prog 9 #[.slice A L.length c] w fun e w' => e = .returned (.bool true) ∧ Below w.heap.size w w' := by
  refine enterPlain tfine Try.func9 rfl 119 Try.ntmps9 [.c (.inp 1000 A L.length c)] [⟨1000, A, 7, L.length, elR L⟩] rfl rfl ⟨hl, trivial⟩ ⟨.inl ⟨rfl, rfl, rfl⟩, trivial⟩ ?_
  refine G.seqR tfine rfl trivial ?_
  refine G.seq ?_
  refine G.seqC tfine rfl trivial ?_
  refine GO.callPlain (v := .bool true) rfl rfl rfl rfl (fun args w => Try.call10 args w) (fun ρ w hs hok => awake_any w) ?_
  refine GO.fin tfine rfl trivial ?_
  refine G.cond_false rfl ?_
  refine G.skip ?_
  refine G.seq ?_
  refine G.seqC tfine rfl ?_ ?_
  · first | trivial | (simp [AllP, condB]; done) | (simp only [AllP]; and_intros <;> first | trivial | decide | omega) | (simp [AllP, condB]; intros; and_intros <;> first | assumption | omega) | (simp [AllP, condB]; intros; simp_all; done) | (simp [AllP, condB]; intros; simp_all; omega) | (simp [AllP, condB]; omega)
  refine GO.callGuard (.bool (smallB L)) rfl rfl rfl (by first | exact trivial | exact ⟨id, trivial⟩ | exact ⟨id, id, trivial⟩ | exact ⟨id, id, id, trivial⟩ | exact ⟨id, id, id, id, trivial⟩) rfl rfl (fun args w => Try.call25 args w) rfl (fun _ m' hle ρ w1 hs hok => small_any A c L w1 (hs.row (cap := c) (hle.at rfl) (hok _ List.mem_cons_self)) (fun i hi => (hin i hi).below hs.fr.toBelow) hm) ?_
  refine GO.fin tfine rfl ?_ ?_
  · first | trivial | (simp [AllP, condB]; done) | (simp only [AllP]; and_intros <;> first | trivial | decide | omega) | (simp [AllP, condB]; intros; and_intros <;> first | assumption | omega) | (simp [AllP, condB]; intros; simp_all; done) | (simp [AllP, condB]; intros; simp_all; omega) | (simp [AllP, condB]; omega)
  refine G.cond (b := (decide ((L.length : Int) > 8) || !(smallB L))) rfl (fun h => ?_) (fun h => ?_)
  · refine G.seqR tfine rfl trivial ?_
    exact G.ret (endK.ret rfl rfl)
  have hsm : L.length ≤ 8 ∧ ∀ i, i < L.length → (L.getD i r0).l.length ≤ 17 := by
    simp only [smallB, Bool.or_eq_false_iff, Bool.not_eq_false', Bool.and_eq_true, decide_eq_false_iff_not, Bool.not_eq_true'] at h
    refine ⟨by omega, fun i hi => ?_⟩
    have := List.any_eq_false.1 h.2.2 i (by simp [List.mem_range']; omega)
    simp only [fewR, Bool.not_eq_true, Bool.not_eq_false', decide_eq_true_eq] at this
    omega
  refine G.skip ?_
  refine G.seq ?_
  refine G.seqC tfine rfl trivial ?_
  refine GO.callAns [.c (.r L.length 7 (elR L))] [800] rfl rfl rfl rfl ⟨rfl, rfl, rfl, trivial⟩ (fun args w => Try.call27 args w) (fun ρ w1 hs hok => cloneR_any A c L.length (elR L) w1 (hs.row (cap := c) rfl (hok _ List.mem_cons_self)) (fun i hi => rfl) (fun i hi => elR_one L i) (by omega)) ?_
  refine GO.callPlain (v := .tuple #[I (chM L).1, I (chM L).2]) rfl rfl rfl rfl (fun args w => Try.call26 args w) (fun ρ w1 hs hok => chain_any _ _ L w1 (hs.rowR rfl (hok _ List.mem_cons_self) (Nat.le_refl _)) (fun i hi => (hin i hi).below hs.fr.toBelow) hsm.2) ?_
  refine GO.fin tfine rfl trivial ?_
  refine G.seqR tfine rfl trivial ?_
  have hch : chM L = chF L 0 L.length 0 0 := by rw [chM, if_neg (by simp; omega)]
  rw [hch]
  have hbd := chF_bound L L.length 0 0 0
  refine G.cond (b := ((chF L 0 L.length 0 0).2 != 0)) rfl (fun h2 => ?_) (fun h2 => ?_)
  · refine G.seqR tfine rfl ?_ ?_
    · first | trivial | (simp [AllP, condB]; done) | (simp only [AllP]; and_intros <;> first | trivial | decide | omega) | (simp [AllP, condB]; intros; and_intros <;> first | assumption | omega) | (simp [AllP, condB]; intros; simp_all; done) | (simp [AllP, condB]; intros; simp_all; omega) | (simp [AllP, condB]; omega)
    refine G.ret (endK.ret rfl ?_)
    simp
    omega
  have h2 : (chF L 0 L.length 0 0).2 = 0 := by simpa using h2
  clear hbd hch
  refine G.skip ?_
  refine G.seqR tfine rfl trivial ?_
  refine G.seq (G.seqR tfine rfl trivial ?_)
  refine G.block (G.loop (fun z : Nat × (Int × Int) × Int × Int => St.of [(0, .v (.c (.inp 1000 A L.length c))), (5, .v (.c (.k (I z.2.1.1)))), (6, .v (.c (.k (I z.2.1.2)))), (47, .v (.c (.inp 1000 A L.length c))), (48, .v (.c (.k (I L.length)))), (49, .v (.c (.k (I z.1))))] [(1000, .ro 7 L.length (elR L))])
    (fun z => z.1 ≤ L.length ∧ (chF L z.1 (L.length - z.1) z.2.2.1 z.2.2.2).2 = 0 ∧ (0 ≤ z.2.1.1 ∧ z.2.1.1 ≤ z.1 * 10737418240000) ∧ (0 ≤ z.2.2.1 ∧ z.2.2.1 ≤ 365072220160000) ∧ (z.1 < L.length → z.2.1.1 = z.2.1.2 + z.2.2.1) ∧ (z.1 = L.length → z.2.1.1 = z.2.1.2)) (fun z => L.length - z.1) (0, (0, 0), 0, 0) ⟨by simp, by simpa using h2, by simp, by simp, by simp, by simp⟩ (St.le_of rfl ⟨⟨_, rfl, Blk.le_refl _⟩, trivial⟩ ⟨rfl, rfl, rfl, rfl, rfl, rfl, trivial⟩) ?_)
  rintro ⟨k, ⟨ch, out⟩, a, m⟩ ⟨hk, hfi, hcb, hab, hi1, hi2⟩
  dsimp only at hk hfi hcb hab hi1 hi2 ⊢
  refine G.seqR tfine rfl trivial ?_
  refine G.seq (G.cond (b := decide ((k : Int) < (L.length : Int))) rfl (fun h3 => ?_) (fun h3 => ?_))
  rotate_left
  · have h3 := of_decide_eq_false h3
    have : k = L.length := by omega
    have := hi2 this
    subst this
    refine G.exit ?_
    refine G.seqR tfine rfl trivial ?_
    refine G.ret (endK.ret rfl ?_)
    simp
  have h3 := of_decide_eq_true h3
  have hlt : k < L.length := by omega
  have hi1 := hi1 hlt
  rw [chF_step L hlt] at hfi
  have hr1 := hin k hlt
  have hr2 := hsm.2 k hlt
  have hr3 := hAn k hlt
  obtain ⟨r, hr⟩ : ∃ r, r = L.getD k r0 := ⟨_, rfl⟩
  rw [← hr] at hfi hr1 hr2 hr3
  have hbad : r.bad = false := by
    cases hb : r.bad with
    | false => rfl
    | true => rw [if_pos hb] at hfi; cases hfi
  rw [if_neg (fne35 hbad)] at hfi
  split at hfi
  · cases hfi
  split at hfi
  · cases hfi
  rename_i hmis
  have hfa : r.fa = a := by
    simp only [misB, Bool.or_eq_true, bne_iff_ne, not_or, Decidable.not_not] at hmis
    exact hmis.1
  obtain ⟨hh, rs, ms, fe, hx2, rx2, mx2, fx2, q1, q2, q3, q4, hsum, bh, br, bf, bal, bfa⟩ := run_flow hbad hr2
  rw [q4] at hfi
  dsimp only at hfi
  have hk8 := hsm.1
  refine G.skip ?_
  refine G.seq (G.block ?_)
  refine G.seqR tfine rfl ⟨by simpa using hlt, by omega, by omega, trivial⟩ ?_
  rw [Int.toNat_natCast, ← hr]
  refine G.seqC tfine rfl trivial ?_
  refine GO.callTabP ([I r.id, I r.day, I r.al, I r.ma, I r.fa, I r.fm], []) rfl rfl rfl rfl rfl rfl rfl (fun args w => Try.call13 args w) (fun ρ w1 hs hok => cp_any r.id r.day r.al r.ma r.fa r.fm r.A r.c r.l w1 (hr1.below hs.fr.toBelow) hr2 hr3) (fun A1 k1 => ?_)
  refine GO.callPlain (v := .tuple #[I hh, I hx2, I 0]) rfl rfl rfl rfl (fun args w => Try.call19 args w) (fun ρ w1 hs hok => ?_) ?_
  · have := runSum_any r.id r.day r.al r.ma r.fa r.fm A1 k1 r.l 2 w1 (hs.row (cap := k1) rfl ((hok _ List.mem_cons_self) _ (List.mem_cons_of_mem _ (List.mem_cons_of_mem _ (List.mem_cons_of_mem _ (List.mem_cons_of_mem _ (List.mem_cons_of_mem _ (List.mem_cons_of_mem _ List.mem_cons_self)))))))) hr2
    rw [q1] at this
    exact this
  refine GO.fin tfine rfl trivial ?_
  refine G.seqC tfine rfl trivial ?_
  refine GO.callTabP ([I r.id, I r.day, I r.al, I r.ma, I r.fa, I r.fm], []) rfl rfl rfl rfl rfl rfl rfl (fun args w => Try.call13 args w) (fun ρ w1 hs hok => cp_any r.id r.day r.al r.ma r.fa r.fm r.A r.c r.l w1 (hr1.below hs.fr.toBelow) hr2 hr3) (fun A2 k2 => ?_)
  refine GO.callPlain (v := .tuple #[I rs, I rx2, I 0]) rfl rfl rfl rfl (fun args w => Try.call19 args w) (fun ρ w1 hs hok => ?_) ?_
  · have := runSum_any r.id r.day r.al r.ma r.fa r.fm A2 k2 r.l 4 w1 (hs.row (cap := k2) rfl ((hok _ List.mem_cons_self) _ (List.mem_cons_of_mem _ (List.mem_cons_of_mem _ (List.mem_cons_of_mem _ (List.mem_cons_of_mem _ (List.mem_cons_of_mem _ (List.mem_cons_of_mem _ List.mem_cons_self)))))))) hr2
    rw [q2] at this
    exact this
  refine GO.fin tfine rfl trivial ?_
  refine G.seqC tfine rfl trivial ?_
  refine GO.callTabP ([I r.id, I r.day, I r.al, I r.ma, I r.fa, I r.fm], []) rfl rfl rfl rfl rfl rfl rfl (fun args w => Try.call13 args w) (fun ρ w1 hs hok => cp_any r.id r.day r.al r.ma r.fa r.fm r.A r.c r.l w1 (hr1.below hs.fr.toBelow) hr2 hr3) (fun A3 k3 => ?_)
  refine GO.callPlain (v := .tuple #[I ms, I mx2, I 0]) rfl rfl rfl rfl (fun args w => Try.call12 args w) (fun ρ w1 hs hok => ?_) ?_
  · have := runBalance_any r.id r.day r.al r.ma r.fa r.fm A3 k3 r.l w1 (hs.row (cap := k3) rfl ((hok _ List.mem_cons_self) _ (List.mem_cons_of_mem _ (List.mem_cons_of_mem _ (List.mem_cons_of_mem _ (List.mem_cons_of_mem _ (List.mem_cons_of_mem _ (List.mem_cons_of_mem _ List.mem_cons_self)))))))) hr2
    rw [q3] at this
    exact this
  refine GO.fin tfine rfl trivial ?_
  refine G.seqC tfine rfl trivial ?_
  refine GO.callTabP ([I r.id, I r.day, I r.al, I r.ma, I r.fa, I r.fm], []) rfl rfl rfl rfl rfl rfl rfl (fun args w => Try.call13 args w) (fun ρ w1 hs hok => cp_any r.id r.day r.al r.ma r.fa r.fm r.A r.c r.l w1 (hr1.below hs.fr.toBelow) hr2 hr3) (fun A4 k4 => ?_)
  refine GO.callPlain (v := .tuple #[I fe, I fx2, I 0]) rfl rfl rfl rfl (fun args w => Try.call21 args w) (fun ρ w1 hs hok => ?_) ?_
  · have := runFeints_any r.id r.day r.al r.ma r.fa r.fm A4 k4 r.l w1 (hs.row (cap := k4) rfl ((hok _ List.mem_cons_self) _ (List.mem_cons_of_mem _ (List.mem_cons_of_mem _ (List.mem_cons_of_mem _ (List.mem_cons_of_mem _ (List.mem_cons_of_mem _ (List.mem_cons_of_mem _ List.mem_cons_self)))))))) hr2
    have q4' : feiM r.id r.day r.al r.ma r.fa r.fm r.l = (fe, fx2, 0) := q4
    rw [q4'] at this
    exact this
  refine GO.fin tfine rfl trivial ?_
  refine G.seq (G.seqR tfine rfl ?_ ?_)
  · first | trivial | (simp [AllP, condB]; done) | (simp only [AllP]; and_intros <;> first | trivial | decide | omega) | (simp [AllP, condB]; intros; and_intros <;> first | assumption | omega) | (simp [AllP, condB]; intros; simp_all; done) | (simp [AllP, condB]; intros; simp_all; omega) | (simp [AllP, condB]; omega)
  refine G.cond (b := ((((0 : Int) != 0) || ((0 : Int) != 0)) || ((0 : Int) != 0)) || ((0 : Int) != 0)) rfl (fun h4 => ?_) (fun h4 => ?_)
  · simp at h4
  refine G.skip ?_
  refine G.seqR tfine rfl trivial ?_
  rw [IntWalk.i64_in (ch + r.al) (by omega), IntWalk.i64_in (out + hh) (by omega), IntWalk.i64_in (out + hh + rs) (by omega), IntWalk.i64_in (out + hh + rs + ms) (by omega)]
  refine G.seqR tfine rfl trivial ?_
  rw [IntWalk.i64_in ((L.length : Int) - 1) (by omega)]
  refine G.cond (b := ((k : Int) == (L.length : Int) - 1)) rfl (fun h5 => ?_) (fun h5 => ?_)
  · have h5 : k + 1 = L.length := by simp only [beq_iff_eq] at h5; omega
    refine G.reg tfine rfl trivial ?_
    rw [IntWalk.i64_in (out + hh + rs + ms + fe) (by omega)]
    refine G.reg tfine rfl trivial ?_
    rw [IntWalk.i64_in ((k : Int) + 1) (by omega)]
    refine ⟨(k + 1, (ch + r.al, out + hh + rs + ms + fe), fe, fx2), ⟨by show k + 1 ≤ L.length; omega, hfi, ?_, bf, ?_, ?_⟩, (by show L.length - (k + 1) < L.length - k; omega), St.le_of rfl ⟨⟨_, rfl, Blk.le_refl _⟩, trivial⟩ ⟨rfl, rfl, rfl, rfl, rfl, by simp [up, I], trivial⟩⟩
    · dsimp only; omega
    · dsimp only; omega
    · dsimp only; omega
  · have h5 : k + 1 ≠ L.length := by
      intro h6
      simp only [beq_eq_false_iff_ne] at h5
      omega
    refine G.skip ?_
    refine G.reg tfine rfl trivial ?_
    rw [IntWalk.i64_in ((k : Int) + 1) (by omega)]
    refine ⟨(k + 1, (ch + r.al, out + hh + rs + ms), fe, fx2), ⟨by show k + 1 ≤ L.length; omega, hfi, ?_, bf, ?_, ?_⟩, (by show L.length - (k + 1) < L.length - k; omega), St.le_of rfl ⟨⟨_, rfl, Blk.le_refl _⟩, trivial⟩ ⟨rfl, rfl, rfl, rfl, rfl, by simp [up, I], trivial⟩⟩
    · dsimp only; omega
    · dsimp only; omega
    · dsimp only; omega
theorem RunReturns_row (A : Option Addr) (c : Nat) (ess : List (List Value)) (w : World) (hr : RdRow w A ess.length 7 (fun i => ess.getD i [])) (hn : A = none → ess.length = 0) (hm : ess.length ≤ maxLen) (hw : ∀ es ∈ ess, LeafAll (Leaf.says w 3) [.int .i64, .int .i64, .int .i64, .int .i64, .int .i64, .int .i64, .row 3 [.int .i64, .int .i64, .int .i64]] es) :
    Calls Try.prog 9 #[.slice A ess.length c] w fun e w' => e = .returned (.bool true) ∧ Below w.heap.size w w' := by
  obtain ⟨L, h1, h2, h3, h4⟩ := rowR hr hw
  rw [← h1] at hm ⊢
  exact RunReturns_any A c L w h2 h3 h4 (by unfold maxLen at hm; omega)
end Go.Proofs.Ytmdgaifonpgojaa
