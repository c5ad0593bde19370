/- Openers of arguments for the rows: arrays of two and of three whole numbers. -/
import Derived.WideKeyPair
import Derived.Test.YtiicemgngccicaaSxI
set_option linter.unusedVariables false
set_option linter.unusedSimpArgs false
namespace Go.Sx
open Go.ChangeShapes Go.WideShapes Go.WideMaps
section
variable {H : Type} {enc : TypeId × Value → H} {P : Program} {k e : TypeId} {q : IntKind} {W : World} {base : Nat} {sp : Nat → Bool} {held : Bool}
theorem open_arr2 (A : ArrKey P k e 2) (he : P.underlying e = some (.int q)) {r : Reach} {b0 : Nat} {v : Value} {d : DataW H} {ps : List MemPlace} (hval : Value.okWide P W r b0 k v) (hd : DataW.Trod enc P W base sp held k v d ps) :
    ∃ a b : Int, v = .agg #[.int q a, .int q b] ∧ d = .agg [.lit (.int q a), .lit (.int q b)] ∧ ps = [] ∧ (Lit.int q a).wf = true ∧ (Lit.int q b).wf = true := open_pair A he hval hd
theorem shut_arr2 (A : ArrKey P k e 2) (he : P.underlying e = some (.int q)) {a b : Int} (wa : (Lit.int q a).wf = true) (wb : (Lit.int q b).wf = true) :
    DataW.Trod enc P W base sp held k (.agg #[.int q a, .int q b]) (.agg [.lit (.int q a), .lit (.int q b)]) [] := shut_pair A he wa wb
theorem okWide_three (A : ArrKey P k e 3) {r : Reach} {b0 : Nat} {v : Value} (h : Value.okWide P W r b0 k v) : ∃ c0 c1 c2, v = .agg #[c0, c1, c2] := by
  simp only [Value.okWide, A.hu] at h
  obtain ⟨cs, h1, h2, _⟩ := h
  rw [A.size] at h2
  obtain ⟨l⟩ := cs
  match l, h2 with
  | [c0, c1, c2], _ => exact ⟨c0, c1, c2, h1⟩
theorem open_arr3 (A : ArrKey P k e 3) (he : P.underlying e = some (.int q)) {r : Reach} {b0 : Nat} {v : Value} {d : DataW H} {ps : List MemPlace} (hval : Value.okWide P W r b0 k v) (hd : DataW.Trod enc P W base sp held k v d ps) :
    ∃ a b c : Int, v = .agg #[.int q a, .int q b, .int q c] ∧ d = .agg [.lit (.int q a), .lit (.int q b), .lit (.int q c)] ∧ ps = [] ∧ (Lit.int q a).wf = true ∧ (Lit.int q b).wf = true ∧ (Lit.int q c).wf = true := by
  obtain ⟨c0, c1, c2, rfl⟩ := okWide_three A hval
  obtain ⟨fuel, hf⟩ := hd
  cases fuel with
  | zero => simp [DataW.trod] at hf
  | succ n =>
    rw [DataW.trod_step] at hf
    unfold DataW.trodStep at hf
    simp only [A.hu, Value.cells] at hf
    rw [if_pos (by rw [A.size]; rfl)] at hf
    simp only [Option.map_eq_some_iff] at hf
    obtain ⟨xs, hx, e1⟩ := hf
    rw [show List.range 3 = [0, 1, 2] from rfl, List.mapM_cons, List.mapM_cons, List.mapM_cons, List.mapM_nil] at hx
    simp only [bind, Option.bind_eq_some_iff, pure, Option.some.injEq, A.one] at hx
    obtain ⟨y0, h0, _, ⟨y1, h1, _, ⟨y2, h2, _, rfl, rfl⟩, rfl⟩, rfl⟩ := hx
    obtain ⟨a, ea, rfl, wa⟩ := DataW.trod_int he h0
    obtain ⟨b, eb, rfl, wb⟩ := DataW.trod_int he h1
    obtain ⟨c, ec, rfl, wc⟩ := DataW.trod_int he h2
    simp at ea eb ec
    subst ea; subst eb; subst ec
    simp only [Prod.mk.injEq] at e1
    exact ⟨a, b, c, rfl, by rw [← e1.1]; rfl, by rw [← e1.2]; rfl, wa, wb, wc⟩
theorem shut_arr3 (A : ArrKey P k e 3) (he : P.underlying e = some (.int q)) {a b c : Int} (wa : (Lit.int q a).wf = true) (wb : (Lit.int q b).wf = true) (wc : (Lit.int q c).wf = true) :
    DataW.Trod enc P W base sp held k (.agg #[.int q a, .int q b, .int q c]) (.agg [.lit (.int q a), .lit (.int q b), .lit (.int q c)]) [] :=
  ⟨2, by
    show DataW.trod enc P W base sp held (1 + 1) k [.int q a, .int q b, .int q c] = _
    rw [DataW.trod_step]
    unfold DataW.trodStep
    simp only [A.hu]
    rw [if_pos (by rw [A.size]; rfl), show List.range 3 = [0, 1, 2] from rfl, List.mapM_cons, List.mapM_cons, List.mapM_cons, List.mapM_nil]
    simp [A.one, DataW.trod, he, wa, wb, wc]⟩
end
open Go.RowKit
/-- What the seat's rows tell of a slice of whole numbers, as the executor takes it. -/
theorem rowI {k : IntKind} {w : World} {a : Option Addr} {len cap : Nat} {zs : List Int} (h : (a = none ∧ len = 0 ∧ cap = 0 ∧ zs = []) ∨ ∃ x, a = some x ∧ len ≤ cap ∧ cap ≤ maxLen ∧ zs.length = cap ∧ (∀ i, i < zs.length → w.cell? (x.add i) = some (.int k (zs.getD i 0))) ∧ ∀ n ∈ zs, (Lit.int k n).wf = true) :
    ∃ l : List Int, len = l.length ∧ RdRow w a l.length 1 (fun i => [.int k (l.getD i 0)]) ∧ l.length ≤ maxLen ∧ (∀ n ∈ l, (Lit.int k n).wf = true) ∧ (a = none → l.length = 0) := by
  rcases h with ⟨rfl, rfl, rfl, rfl⟩ | ⟨x, rfl, h1, h2, h3, h4, h5⟩
  · exact ⟨[], rfl, RdRow.nil _ _ _ _, by simp, by simp, fun _ => rfl⟩
  · have hl : (zs.take len).length = len := by simp; omega
    refine ⟨zs.take len, hl.symm, ?_, by omega, fun n hn => h5 n (List.mem_of_mem_take hn), fun h => by cases h⟩
    intro h0
    have hspot : x.spot = none := by
      have := h4 0 (by omega)
      rw [show x.add 0 = x from rfl] at this
      unfold World.cell? at this
      split at this
      · split at this
        · cases this
        · rename_i hn
          cases hs : x.spot with
          | none => rfl
          | some _ => rw [hs] at hn; exact absurd rfl hn
      · cases this
    obtain ⟨b, o, sp⟩ := x
    simp only at hspot
    subst hspot
    refine ⟨b, o, rfl, ?_, fun i hi => ⟨rfl, fun j hj => ?_⟩⟩
    · have := h4 0 (by omega)
      rw [show (⟨b, o, none⟩ : Addr).add 0 = ⟨b, o, none⟩ from rfl] at this
      unfold World.cell? at this
      split at this
      · rename_i hh
        exact (Array.getElem?_eq_some_iff.1 hh).1
      · cases this
    · have hj : j = 0 := by omega
      subst hj
      have := h4 i (by omega)
      rw [Addr.add_lit] at this
      rw [show o + (i * 1 + 0) = o + i by omega, this]
      have hi' : i < len := by omega
      simp [List.getD_eq_getElem?_getD, hi']
end Go.Sx
