/- Chapter 27: divisors, ranges, lists of numbers. -/
import Derived.Test.YtafhnfcahhlanaaLB2
import Derived.RangeFuncIn
import Derived.RangeFuncRecord
import Derived.RangeFuncSeq
import Derived.Defers
import Derived.RangeFuncLeaves
import Derived.Test.YtafhnfcahhlanaaProg
import Derived.KernelRfl
import Derived.Lib.Mul64
/- The symbolic executor, part AP: iterators (a range over a function): what an iterator owes its caller, the statement by it, the call of yield. Generic over P. -/
set_option linter.unusedVariables false
set_option linter.unusedSimpArgs false
namespace Go.Sx
open Go.RowKit
/-- Nothing but the heap has turned, and it has not shrunk. -/
structure Same (w0 w : World) : Prop where
  os : w.os = w0.os
  tape : w.tape = w0.tape
  output : w.output = w0.output
  size : w0.heap.size ≤ w.heap.size
theorem Same.trans {a b c : World} (h : Same a b) (k : Same b c) : Same a c := ⟨k.os.trans h.os, k.tape.trans h.tape, k.output.trans h.output, Nat.le_trans h.size k.size⟩
theorem Fr.same {w0 w : World} {bs : List Nat} (h : Fr w0 bs w) : Same w0 w := ⟨h.os, h.tape, h.output, h.size⟩
theorem same_of_below {n : Nat} {w0 w : World} (h : Below n w0 w) : Same w0 w := ⟨h.os, h.tape, h.output, h.size⟩
theorem Fr.trans' {w0 w w' : World} {bs bs' : List Nat} (h : Fr w0 bs w) (h' : Fr w bs' w') (hs : ∀ k, k < w0.heap.size → k ∈ bs' → k ∈ bs) : Fr w0 bs w' :=
  ⟨h'.os.trans h.os, h'.tape.trans h.tape, h'.output.trans h.output, Nat.le_trans h.size h'.size, fun k hk hn => (h'.block k (Nat.lt_of_lt_of_le hk h.size) fun hm => hn (hs k hk hm)).trans (h.block k hk hn)⟩
theorem Fr.more {w0 w : World} {bs bs' : List Nat} (h : Fr w0 bs w) (hs : ∀ k ∈ bs, k ∈ bs') : Fr w0 bs' w := ⟨h.os, h.tape, h.output, h.size, fun k hk hn => h.block k hk fun hm => hn (hs k hm)⟩
theorem Fr.putObj {w0 w : World} {bs : List Nat} (h : Fr w0 bs w) {l : Nat} (hl : w0.heap.size ≤ l ∨ l ∈ bs) (o : Obj) : Fr w0 bs (w.putObj l o) :=
  ⟨h.os, h.tape, h.output, by rw [World.putObj_size]; exact h.size, fun k hk hn => by
    refine (World.putObj_heap_other ?_).trans (h.block k hk hn)
    rintro rfl
    rcases hl with hl | hl
    · omega
    · exact hn hl⟩
/-- One round for the value v: it goes on. -/
def YieldTo (P : Program) (l : Nat) (v : Value) (W : World) (R : World → Prop) : Prop := YieldAt Fence.wide 5 P l #[v] W fun e W' => e = .returned (.bool true) ∧ R W'
/-- WHAT AN ITERATOR OWES: whatever loop l (whose rounds turn the blocks T alone and keep J) ranges over the value g: it gives the values xs, in this order. What it leans on are the blocks rd. Z: the blocks on which J hangs. -/
def Rounds (P : Program) {α : Type} (l : Nat) (T : List Nat) (Rel : α → World → Value → Prop) (xs : List α) (J : List α → (Nat → Prop) → World → Prop) (W : World) : Prop :=
  (∀ s Z, Steady Z (J s Z)) ∧ ∀ s x v Z W1, x ∈ xs → Same W W1 → J s Z W1 → (∀ k, Z k → k < W1.heap.size) → Rel x W1 v → (∀ k, vbk v k → k < W1.heap.size ∧ k ∉ T) →
    YieldTo P l v W1 fun W' => Fr W1 T W' ∧ ∃ Z', J (s ++ [x]) Z' W' ∧ ∀ k, Z' k → (Z k ∨ vbk v k ∨ W1.heap.size ≤ k) ∧ k < W'.heap.size
def Iter (P : Program) {α : Type} (g : Value) (rd : Nat → Prop) (Rel : Nat → α → World → Value → Prop) (xs : List α) (w : World) : Prop :=
  ∃ f lb, g = .func (.func f) #[] lb ∧ (∀ (args : Array Value) (w : World), (callFunc f args).run P w = .ok (.enter f args) w) ∧
  ∀ (l : Nat) (T : List Nat) (J : List α → (Nat → Prop) → World → Prop) (Z : Nat → Prop) (W : World),
    (∀ k, rd k → W.heap[k]? = w.heap[k]?) → w.heap.size ≤ W.heap.size → (∀ k ∈ T, k < W.heap.size ∧ ¬ rd k) → (∀ k, Z k → k < W.heap.size) → Rounds P l T (Rel W.heap.size) xs J W → J [] Z W →
    Calls P f (#[.func (.yield l) #[] #[]] ++ lb) W fun e W' => (∃ v, e = .returned v) ∧ Fr W T W' ∧ ∃ Z', J xs Z' W' ∧ ∀ k, Z' k → k < W'.heap.size
theorem Iter.steady {P : Program} {α : Type} {g : Value} {rd : Nat → Prop} {Rel : Nat → α → World → Value → Prop} {xs : List α} : Steady rd (Iter P g rd Rel xs) := by
  rintro w1 w2 h1 h2 ⟨f, lb, e1, e2, h⟩
  exact ⟨f, lb, e1, e2, fun l T J Z W h3 h4 => h l T J Z W (fun k hk => (h3 k hk).trans (h1 k hk)) (Nat.le_trans h2 h4)⟩
theorem wpIn_n {r : Option Nat} {n n' : Nat} {P : Program} {c : Code} {Q : Exit → Act → World → Prop} {a : Act} {w : World} (h : c.wpIn (fenR r) n P Q a w) : c.wpIn (fenR r) n' P Q a w := fun b k cs h1 h2 _ => h b k cs h1 h2 (room_fenR _ _)
/-- THE STATEMENT 'for x := range g', by what the iterator owes. D: the block for deferred calls; l: the loop's record. -/
theorem wp_range {P : Program} {α : Type} {g : Operand} {p : Tmp} {assign body : Code} {Q : Exit → Act → World → Prop} {a : Act} {w : World} {gv : Value} {rd : Nat → Prop} {Rel : Nat → α → World → Value → Prop} {xs : List α}
    (hg : a.eval g = gv) (hI : Iter P gv rd Rel xs w) (hrd : ∀ k, rd k → k < w.heap.size) (T : List Nat) (hT : ∀ k ∈ T, k < w.heap.size ∧ ¬ rd k)
    (I : List α → (Nat → Prop) → World → Prop) (hst : ∀ s Z, Steady Z (I s Z)) (Z0 : Nat → Prop) (hZ0 : ∀ k, Z0 k → k < w.heap.size) (h0 : I [] Z0 w)
    (hround : ∀ l s x v Z W1, x ∈ xs → l = w.heap.size + 1 → Same w W1 → l < W1.heap.size → I s Z W1 → (∀ k, Z k → k < W1.heap.size ∧ k ≠ l) → Rel (w.heap.size + 2) x W1 v → (∀ k, vbk v k → k < W1.heap.size ∧ k ∉ T ∧ k ≠ l) →
      ∃ A₁ : Act → World → Prop, assign.wpIn (fenR (some l)) 6 P (fun e a₁ w₁ => e = .normal ∧ A₁ a₁ w₁) { tmps := a.tmps.setIfInBounds p v, defers := [] } W1 ∧
        ∀ a₁ w₁, A₁ a₁ w₁ → Fr W1 [] w₁ ∧ ∀ W2, Same w₁ W2 → W2.heap.size = w₁.heap.size → (∀ k, k ≠ l → W2.heap[k]? = w₁.heap[k]?) →
          body.wpIn (fenR (some l)) 6 P (fun e a₃ W3 => e = .normal ∧ Fr W2 T W3 ∧ ∃ Z', I (s ++ [x]) Z' W3 ∧ ∀ k, Z' k → (Z k ∨ vbk v k ∨ W1.heap.size ≤ k) ∧ k < W3.heap.size) a₁ W2)
    (hdone : ∀ Z W3, Fr w T W3 → I xs Z W3 → (∀ k, Z k → k < W3.heap.size ∧ k ≠ w.heap.size) → W3.heap[w.heap.size]? = some (.deferred (some [])) → Q .normal { a with defers := { target := .collected w.heap.size, args := #[] } :: a.defers } W3) :
    (Code.rangeFunc g #[p] assign body).wpIn (fenR none) 6 P Q a w := by
  obtain ⟨f, lb, rfl, eg, hseq⟩ := hI
  rw [fenR_none]
  refine wpIn_rangeFunc ?_
  intro fn hfn
  obtain ⟨rec, hrec⟩ : ∃ rec : LoopState → Option Code → Loop, rec = fun st pe => { state := st, pending := pe, fn, tmps := a.tmps, params := #[p], assign, body, defers := w.heap.size } := ⟨_, rfl⟩
  obtain ⟨W1, hW1⟩ : ∃ W1, (w.alloc (.deferred (some []))).alloc (.loop (rec .ready none)) = W1 := ⟨_, rfl⟩
  have hsz1 : W1.heap.size = w.heap.size + 2 := by rw [← hW1]; simp
  have hL1 : W1.heap[w.heap.size + 1]? = some (.loop (rec .ready none)) := by
    rw [← hW1]; have := World.alloc_heap_new (w.alloc (.deferred (some []))) (.loop (rec .ready none)); rwa [World.size_alloc] at this
  have hK1 : W1.heap[w.heap.size]? = some (.deferred (some [])) := by
    rw [← hW1]; exact (Below.heap_alloc _ _ _ (by simp)).trans (World.alloc_heap_new w _)
  have hB1 : Below w.heap.size w W1 := by rw [← hW1]; exact ((Below.refl _ w).alloc (Nat.le_refl _) _).alloc (by simp) _
  have hI1 : I [] Z0 W1 := hst _ _ w W1 (fun k hk => hB1.block k (hZ0 k hk)) hB1.size h0
  refine ⟨w.heap.size + 1, [{ target := .collected w.heap.size, args := #[] }], W1, { target := .fn (.func f) lb, args := #[.func (.yield (w.heap.size + 1)) #[] #[]] }, W1, f,
    #[.func (.yield (w.heap.size + 1)) #[] #[]] ++ lb, W1, ?_, ?_, ?_, ?_, (fun hd => by cases hd), ?_⟩
  · rw [← hW1, hrec]; exact run_enterLoop_outer _ _ _ _ _
  · simp only [resolve, hg]
    simp [go_sem]
  · intro f' hf'; trivial
  · simp [invoke, go_sem, eg]
  · refine callsIn_wide.2 ((hseq (w.heap.size + 1) ((w.heap.size + 1) :: w.heap.size :: T)
      (fun s Z W => ∃ Zi : Nat → Prop, (∀ k, Z k ↔ (Zi k ∨ k = w.heap.size + 1 ∨ k = w.heap.size)) ∧ (∀ k, Zi k → k ≠ w.heap.size + 1 ∧ k ≠ w.heap.size) ∧ I s Zi W ∧ W.heap[w.heap.size + 1]? = some (.loop (rec .ready none)) ∧ W.heap[w.heap.size]? = some (.deferred (some [])))
      (fun k => Z0 k ∨ k = w.heap.size + 1 ∨ k = w.heap.size) W1 (fun k hk => hB1.block k (hrd k hk)) (by omega) ?_ (fun k hk => ?_) ⟨?_, ?_⟩ ⟨Z0, fun _ => Iff.rfl, fun k hk => by have := hZ0 k hk; omega, hI1, hL1, hK1⟩).mono ?_)
    · intro k hk
      rcases List.mem_cons.1 hk with rfl | hk
      · exact ⟨by omega, fun h => by have := hrd _ h; omega⟩
      rcases List.mem_cons.1 hk with rfl | hk
      · exact ⟨by omega, fun h => by have := hrd _ h; omega⟩
      · exact ⟨by have := (hT k hk).1; omega, (hT k hk).2⟩
    · rcases hk with hk | rfl | rfl
      · have := hZ0 k hk; omega
      · omega
      · omega
    · rintro s Z X Y h1 h2 ⟨Zi, e1, e2, e3, e4, e5⟩
      exact ⟨Zi, e1, e2, hst s Zi X Y (fun k hk => h1 k ((e1 k).2 (.inl hk))) h2 e3, (h1 _ ((e1 _).2 (.inr (.inl rfl)))).trans e4, (h1 _ ((e1 _).2 (.inr (.inr rfl)))).trans e5⟩
    · rintro s x v Z W hxs hsame ⟨Zi, e1, e2, e3, hl, hk⟩ hZ hrel hv
      rw [hsz1] at hrel
      have hlt : w.heap.size + 1 < W.heap.size := (Array.getElem?_eq_some_iff.1 hl).1
      have hy := run_yield (P := P) (args := #[v]) hl (by rw [hrec]; rfl)
      rw [hrec] at hy
      have hy2 : (Instr.yield (w.heap.size + 1) #[v]).run P W = .ok (.round (w.heap.size + 1) fn (a.tmps.setIfInBounds p v) assign body) W := by simpa using hy
      have hZi : ∀ k, Zi k → k < W.heap.size ∧ k ≠ w.heap.size + 1 := fun k hk => ⟨hZ k ((e1 k).2 (.inl hk)), (e2 k hk).1⟩
      have hwW : Same w W := (same_of_below hB1).trans hsame
      obtain ⟨A₁, hA, hB⟩ := hround (w.heap.size + 1) s x v Zi W hxs rfl hwW hlt e3 hZi hrel (fun k hk => ⟨(hv k hk).1, fun h => (hv k hk).2 (by simp [h]), fun h => (hv k hk).2 (by simp [h])⟩)
      refine ⟨fn, _, assign, body, hy2, roundIn_of_wpIn hfn (wpIn_mono (wpIn_n hA) ?_)⟩
      rintro e a₁ w₁ ⟨rfl, ha⟩
      obtain ⟨hfr, hbody⟩ := hB a₁ w₁ ha
      have hl1 : w₁.heap[w.heap.size + 1]? = some (.loop (rec .ready none)) := (hfr.block _ hlt (by simp)).trans hl
      have hk1 : w₁.heap[w.heap.size]? = some (.deferred (some [])) := (hfr.block _ (by omega) (by simp)).trans hk
      have hlt1 : w.heap.size + 1 < w₁.heap.size := (Array.getElem?_eq_some_iff.1 hl1).1
      refine ⟨_, run_beginRound hl1 (by rw [hrec]), ?_⟩
      obtain ⟨W2, hW2⟩ : ∃ W2, w₁.putObj (w.heap.size + 1) (.loop { rec .ready none with state := .busy }) = W2 := ⟨_, rfl⟩
      rw [hW2]
      have hs2 : W2.heap.size = w₁.heap.size := by rw [← hW2]; simp
      have hl2 : W2.heap[w.heap.size + 1]? = some (.loop { rec .ready none with state := .busy }) := by rw [← hW2]; exact World.putObj_heap_same hlt1
      have hk2 : W2.heap[w.heap.size]? = some (.deferred (some [])) := by rw [← hW2]; exact (World.putObj_heap_other (by omega)).trans hk1
      have ho2 : ∀ k, k ≠ w.heap.size + 1 → W2.heap[k]? = w₁.heap[k]? := fun k hk => by rw [← hW2]; exact World.putObj_heap_other hk
      have hsm2 : Same w₁ W2 := by rw [← hW2]; exact ⟨rfl, rfl, rfl, by simp⟩
      have hlT : w.heap.size + 1 ∉ T := fun h => by have := (hT _ h).1; omega
      have hDT : w.heap.size ∉ T := fun h => by have := (hT _ h).1; omega
      refine wpIn_mono (wpIn_n (hbody W2 hsm2 hs2 ho2)) ?_
      rintro e a₃ W3 ⟨rfl, hf3, Z', hi3, hz3⟩
      have hl3 : W3.heap[w.heap.size + 1]? = some (.loop { rec .ready none with state := .busy }) := (hf3.block _ (by omega) hlT).trans hl2
      have hk3 : W3.heap[w.heap.size]? = some (.deferred (some [])) := (hf3.block _ (by omega) hDT).trans hk2
      have hlt3 : w.heap.size + 1 < W3.heap.size := (Array.getElem?_eq_some_iff.1 hl3).1
      have hend := run_endRound (P := P) none hl3
      rw [hrec] at hend
      have hZ'n : ∀ k, Z' k → k ≠ w.heap.size + 1 ∧ k ≠ w.heap.size := fun k hk => by
        rcases (hz3 k hk).1 with h | h | h
        · exact e2 k h
        · have := (hv k h).2
          exact ⟨fun e => this (by simp [e]), fun e => this (by simp [e])⟩
        · omega
      refine ⟨_, _, hend, rfl, ?_, fun k => Z' k ∨ k = w.heap.size + 1 ∨ k = w.heap.size, ⟨Z', fun _ => Iff.rfl, hZ'n, ?_, ?_, ?_⟩, fun k hk => ?_⟩
      · refine Fr.putObj (Fr.trans' (w := W2) ?_ hf3 (fun k _ h => by simp [h])) (.inr (by simp)) _
        exact ⟨hsm2.os.trans hfr.os, hsm2.tape.trans hfr.tape, hsm2.output.trans hfr.output, by rw [hs2]; exact hfr.size, fun k hk hn => (ho2 k fun e => hn (by simp [e])).trans (hfr.block k hk (by simp))⟩
      · exact hst _ _ W3 _ (fun k hk => World.putObj_heap_other (hZ'n k hk).1) (by simp) hi3
      · rw [World.putObj_heap_same hlt3, hrec]; simp
      · exact (World.putObj_heap_other (by omega)).trans hk3
      · rw [World.putObj_size]
        rcases hk with hk | rfl | rfl
        · refine ⟨?_, (hz3 k hk).2⟩
          rcases (hz3 k hk).1 with h | h | h
          · exact .inl ((e1 k).2 (.inl h))
          · exact .inr (.inl h)
          · exact .inr (.inr h)
        · exact ⟨.inl ((e1 _).2 (.inr (.inl rfl))), hlt3⟩
        · exact ⟨.inl ((e1 _).2 (.inr (.inr rfl))), by omega⟩
    · rintro e W2 ⟨⟨v, rfl⟩, hfr, Z', ⟨Zi, e1, e2, e3, hl, hk⟩, hZlt⟩
      have hend := run_endLoop (P := P) hl (by rw [hrec]; simp)
      rw [hrec] at hend
      refine ⟨none, _, hend, hdone Zi _ ?_ (hst _ _ W2 _ (fun k hk => World.putObj_heap_other (e2 k hk).1) (by simp) e3) (fun k hk => ⟨by rw [World.putObj_size]; exact hZlt k ((e1 k).2 (.inl hk)), (e2 k hk).2⟩) ((World.putObj_heap_other (by omega)).trans hk)⟩
      refine Fr.putObj ?_ (.inl (by omega)) _
      have hb : Fr w T W1 := (Fr.of_below hB1).more (by simp)
      exact hb.trans' hfr fun k hk h => by
        rcases List.mem_cons.1 h with rfl | h
        · omega
        rcases List.mem_cons.1 h with rfl | h
        · omega
        · exact h
/-! ### The call of yield -/
section
variable {P : Program} {E : Env} {K : Exit → St → Prop} {T : Tab}
theorem yield_run {ρ : Val} {st : St} {a : Act} {w : World} (hs : Sat E ρ st a w) {o : Oper} {c : Call} {y z : Operand} {l : Nat} {av : AV} (hop : o.op = .call c) (hc : c.callee = .value y) (ha : c.args = #[z]) (hy : evT st.t y = .v (.c (.k (.func (.yield l) #[] #[])))) (hz : evT st.t z = .v av) :
    (execOp a.eval o).run P w = (Instr.yield l #[av.conc ρ]).run P w ∧ av.ok ρ st.m := by
  have h1 := hs.eval y
  rw [show st.ev y = _ from hy] at h1
  have h2 := hs.eval z
  rw [show st.ev z = _ from hz] at h2
  have h1' : a.eval y = .func (.yield l) #[] #[] := h1.2
  have h2' : a.eval z = av.conc ρ := h2.2
  refine ⟨?_, h2.1⟩
  simp only [execOp, hop, resolve, hc, ha, Sem.run_bind, Deferred.ofValue, h1', Sem.run_pure, Result.andThen_ok, invoke]
  simp [h2']
/-- What a round leaves as it is. -/
def Blk.calm (T : List Nat) (N : Nat) : Blk → Prop
  | .say S _ => ∀ k ∈ T, ¬ S k
  | .ro _ n _ => n = 0
  | _ => True
theorem SatM.yielded {ρ : Val} {m : Mem} {w w' : World} (h : SatM E ρ m w) {T : List Nat} {xJ : Nat} {Z Z' : Nat → Prop} {R R' : World → Prop} (hE : E.bor = borT 1000 T) (hT : ∀ k ∈ T, k < E.w0.heap.size) (hfr : Fr w T w') (hx : m xJ = some (.say Z R)) {V : Nat → Prop}
    (hcalm : ∀ y b, y ≠ xJ → m y = some b → y < 1000 ∧ Blk.calm T 0 b) (hV : ∀ y b, m y = some b → b.own → ¬ V (ρ y).1) (hr : R' w') (hst : Steady Z' R') (hZ : ∀ k, Z' k → (Z k ∨ V k ∨ w.heap.size ≤ k) ∧ k < w'.heap.size) :
    SatM E ρ (up m xJ (some (.say Z' R'))) w' := by
  have hbs : E.bor.map (·.2) = T := by rw [hE, borT_snd]
  refine h.swap (h.fr.trans' hfr fun k _ hk => by rw [hbs]; exact hk) hfr.size (fun z hz => isSome_up z hz) fun z b hz => ?_
  by_cases e : z = xJ
  · subst e
    rw [up_same] at hz
    injection hz with hz
    subst hz
    refine .inr (.inl ⟨_, _, rfl, hr, fun k hk => (hZ k hk).2, hst, fun y c hy hc ho hk => ?_⟩)
    rw [up_other _ _ hy] at hc
    rcases (hZ _ hk).1 with h1 | h1 | h1
    · exact h.ne y z c _ hc hx ho trivial hy h1
    · exact hV y c hc ho h1
    · have := h.lt hc ho; omega
  · rw [up_other _ _ e] at hz
    refine .inl ⟨hz, fun k hl hk => hfr.block k ?_ ?_⟩
    · exact h.lt' hz hl hk
    · intro hkT
      obtain ⟨hb1, hb2⟩ := hcalm z b e hz
      cases b with
      | say S R => exact hb2 k hkT hk
      | ro sz n el => exact absurd (show 0 < n from hl) (by rw [show n = 0 from hb2]; omega)
      | _ =>
        have hp := h.ownGe hz trivial
        rw [show k = (ρ z).1 from hk] at hkT
        rcases hp with hp | hp
        · have := hT _ hkT; omega
        · rw [hE] at hp
          have := (borT_mem hp).1
          simp only at this
          omega
/-- A call of yield in a region without an order to draw. -/
theorem GO.yield {α : Type} {ops : Array Oper} {rest : List Oper} {o : Oper} {c : Call} {y z : Operand} {l : Nat} {av : AV} {t : Nat → TV} {m : Mem} {L : List Nat} {Rel : α → World → Value → Prop} {xs : List α} {J : List α → (Nat → Prop) → World → Prop} (xJ : Nat) (s : List α) (x : α) (Z : Nat → Prop)
    (hR : Rounds P l L Rel xs J E.w0) (hxs : x ∈ xs) (hE : E.bor = borT 1000 L) (hT : ∀ k ∈ L, k < E.w0.heap.size) (hx : m xJ = some (.say Z (J s Z)))
    (hg : o.guard = none) (hop : o.op = .call c) (hc : c.callee = .value y) (ha : c.args = #[z]) (hy : evT t y = .v (.c (.k (.func (.yield l) #[] #[])))) (hz : evT t z = .v av) (hd : dstOk E.N o.dst = true)
    (hcalm : ∀ y b, y ≠ xJ → m y = some b → y < 1000 ∧ Blk.calm L 0 b)
    (hrel : ∀ ρ w, SatM E ρ m w → av.ok ρ m → Rel x w (av.conc ρ) ∧ (∀ k, vbk (av.conc ρ) k → k < w.heap.size ∧ k ∉ L ∧ ∀ y b, m y = some b → b.own → (ρ y).1 ≠ k))
    (k : ∀ Z', GO P E ops K rest ⟨Sx.putT t o.dst (.v (.c (.k (.bool true)))), up m xJ (some (.say Z' (J (s ++ [x]) Z')))⟩) : GO P E ops K (o :: rest) ⟨t, m⟩ := by
  intro ρ a w hs
  unfold wpL
  rw [if_pos (by simp [Region.wanted, hg])]
  refine .inr ?_
  obtain ⟨hrun, hok⟩ := yield_run hs hop hc ha hy hz
  obtain ⟨j1, j2, j3⟩ := hs.mem.ok _ _ hx
  obtain ⟨r1, r2⟩ := hrel ρ w hs.mem hok
  obtain ⟨fn, tmps, assign, body, h1, h2⟩ := hR.2 s x _ Z w hxs hs.mem.fr.same j1 j2 r1 fun k hk => ⟨(r2 k hk).1, (r2 k hk).2.1⟩
  refine ⟨l, fn, tmps, assign, body, w, hrun.trans h1, RoundIn.mono h2 ?_⟩
  rintro e W' ⟨rfl, hfr, Z', hj, hZ⟩
  refine ⟨_, rfl, k Z' ρ _ W' ((hs.remem0 (hs.mem.yielded hE hT hfr hx hcalm (V := vbk (av.conc ρ)) (fun y b hy ho hk => (r2 _ hk).2.2 y b hy ho rfl) hj (hR.1 _ _) hZ) fun z hz => isSome_up z hz).putT (dstOk_lt hd) ⟨trivial, rfl⟩)⟩
end
end Go.Sx
/- The symbolic executor, part AQ: regions that draw, where an operation's answer is chosen as it is carried out (constants that no record could know before). Generic over P. -/
set_option linter.unusedVariables false
set_option linter.unusedSimpArgs false
namespace Go.Sx
open Go.RowKit
abbrev Cho := Value × (Nat → Prop)
structure Fam where
  tv : Cho → TV
  ms : Cho → List (Nat × Blk)
  nm : List Nat
  full : Bool
def nmM (nm : List Nat) : List (Nat × Blk) := nm.map fun y => (y, Blk.ro 0 0 fun _ => [])
theorem nmM_some {nm : List Nat} {x : Nat} : (mget (nmM nm) x).isSome = true → x ∈ nm := by
  induction nm with
  | nil => intro h; cases h
  | cons y r ih =>
    intro h
    simp only [nmM, List.map_cons, mget] at h
    cases hb : Nat.beq x y with
    | true => rw [Nat.eq_of_beq_eq_true hb]; simp
    | false => rw [hb] at h; exact List.mem_cons_of_mem _ (ih h)
theorem nmM_mem {nm : List Nat} {x : Nat} (h : x ∈ nm) : (mget (nmM nm) x).isSome = true := by
  induction nm with
  | nil => cases h
  | cons y r ih =>
    simp only [nmM, List.map_cons, mget]
    cases hb : Nat.beq x y with
    | true => rfl
    | false =>
      cases h with
      | head => simp at hb
      | tail _ h => exact ih h
section
variable {P : Program} {E : Env} {K : Exit → St → Prop} {T : Tab} {l : List Oper} {cls : List Nat} {X : List (Nat × Nat)} {base : St}
def StepsC (P : Program) (E : Env) (ops : Array Oper) (o : Oper) (C : St) (F : Fam) : Prop :=
  ∀ st, Le (dx o) (nmM F.nm) C st → (F.full = true → st.m = C.m) → ∀ ρ a w, Sat E ρ st a w → ∀ (Kc : Act → World → Prop) (Q : Exit → Act → World → Prop), (∀ i ρ' a' w', Sat E ρ' ⟨Sx.putT st.t o.dst (F.tv i), upm st.m (F.ms i)⟩ a' w' → Kc a' w') →
    if Region.wanted o (yielded ops a.tmps) = true then o.wp P a w Kc Q ∨ YieldW P o a w Kc else Kc (a.put o.dst undef) w
def Wany (X : List (Nat × Nat)) (k : Nat) (o : Oper) : Bool := (match o.op with
  | .alloc _ | .box .. | .buildSlice .. => true
  | _ => false) || X.any fun p => Nat.beq p.1 k
theorem Wn_any {X : List (Nat × Nat)} {k : Nat} {o : Oper} {x : Nat} (h : Wn X k o x = true) : Wany X k o = true := by
  unfold Wn at h
  unfold Wany
  rw [Bool.or_eq_true] at h ⊢
  rcases h with h | h
  · left
    revert h
    cases o.op <;> intro h <;> first
      | rfl
      | exact absurd h (by simp)
  · right
    have : ∀ Y : List (Nat × Nat), Wn.inX Y k x = true → (Y.any fun p => Nat.beq p.1 k) = true := by
      intro Y
      induction Y with
      | nil => intro h; cases h
      | cons p r ih =>
        intro h
        simp only [Wn.inX, Bool.or_eq_true, Bool.and_eq_true] at h
        simp only [List.any_cons, Bool.or_eq_true]
        rcases h with h | h
        · exact .inl h.1
        · exact .inr (ih h)
    exact this X h
theorem memU_mono {f g : Nat → Oper → Bool} (hfg : ∀ k o, f k o = true → g k o = true) {cls : List Nat} {i : Nat} : ∀ {k : Nat} {l : List Oper}, memU g cls i k l = false → memU f cls i k l = false
  | _, [], _ => rfl
  | k, o :: r, h => by
    simp only [memU, Bool.or_eq_false_iff, Bool.and_eq_false_iff] at h ⊢
    refine ⟨?_, memU_mono hfg h.2⟩
    rcases h.1 with h1 | h1
    · exact .inl h1
    · right
      cases hf : f k o with
      | false => rfl
      | true => rw [hfg _ _ hf] at h1; cases h1
def AllC (P : Program) (E : Env) (l : List Oper) (cls : List Nat) (X : List (Nat × Nat)) (base : St) (ch : Nat → Option Fam) (c : Nat → Cho) : List DR → Prop
  | [] => True
  | r :: pre => AllC P E l cls X base ch c pre ∧ l[pre.length]? = some r.o ∧ (∀ x, (mget r.ms x).isSome = true → Wn X pre.length r.o x = true) ∧ (match ch pre.length with
    | none => Steps P E l.toArray r.o (can l cls X base pre) r.tv r.ms
    | some F => r.tv = F.tv (c pre.length) ∧ r.ms = F.ms (c pre.length) ∧ StepsC P E l.toArray r.o (can l cls X base pre) F ∧ (∀ x ∈ F.nm, Wn X pre.length r.o x = true) ∧
        (F.full = true → memU (fun k o' => Wany X k o') cls pre.length 0 l = false))
theorem AllC.at {ch : Nat → Option Fam} {c : Nat → Cho} {recs post pre : List DR} {r : DR} (h : AllC P E l cls X base ch c recs) (e : recs = post ++ r :: pre) :
    l[pre.length]? = some r.o ∧ (∀ x, (mget r.ms x).isSome = true → Wn X pre.length r.o x = true) ∧ (match ch pre.length with
    | none => Steps P E l.toArray r.o (can l cls X base pre) r.tv r.ms
    | some F => r.tv = F.tv (c pre.length) ∧ r.ms = F.ms (c pre.length) ∧ StepsC P E l.toArray r.o (can l cls X base pre) F ∧ (∀ x ∈ F.nm, Wn X pre.length r.o x = true) ∧
        (F.full = true → memU (fun k o' => Wany X k o') cls pre.length 0 l = false)) := by
  induction post generalizing recs with
  | nil => subst e; exact h.2
  | cons a post ih => subst e; exact ih h.1 rfl
theorem atR_same {β : Type} {D : Nat → Bool} {g : DR → Option β} {b : β} : ∀ {u v : List DR}, u.length = v.length → (∀ j, j < u.length → D j = true → u[u.length - 1 - j]? = v[v.length - 1 - j]?) → atR D g u b = atR D g v b
  | [], [], _, _ => rfl
  | [], _ :: _, h, _ => by simp at h
  | _ :: _, [], h, _ => by simp at h
  | r :: u, r' :: v, hl, h => by
    have hl' : u.length = v.length := by simpa using hl
    have hi := atR_same (D := D) (g := g) (b := b) hl' fun j hj hd => by
      have := h j (by simp; omega) hd
      rw [show (r :: u).length - 1 - j = u.length - 1 - j + 1 by simp; omega, show (r' :: v).length - 1 - j = v.length - 1 - j + 1 by simp; omega] at this
      simpa using this
    simp only [atR, hi, hl']
    cases hd : D v.length with
    | false => rfl
    | true =>
      have := h u.length (by simp) (by rw [hl']; exact hd)
      simp [hl'] at this
      rw [this]
/-- What an operation leaves, in any order. -/
theorem stD_next {D D' : Nat → Bool} {recs post pre : List DR} {r : DR} (hp : Pred l cls) (hc : Clo l D) (e : recs = post ++ r :: pre)
    (hat : ∀ post r pre, recs = post ++ r :: pre → l[pre.length]? = some r.o ∧ ∀ x, (mget r.ms x).isSome = true → Wn X pre.length r.o x = true)
    (ha : Apart l cls X pre.length r.o) (hx : xOk l cls X X = true) (hDi : D pre.length = false) (hD' : ∀ k, D' k = (Nat.beq k pre.length || D k)) :
    (⟨Sx.putT (stD D base recs).t r.o.dst r.tv, upm (stD D base recs).m r.ms⟩ : St) = stD D' base recs := by
  have hro := (hat post r pre e).1
  have hwT : ∀ j, ∀ post r pre, recs = post ++ r :: pre → l[pre.length]? = some r.o ∧ ((gT j r).isSome = true → (fun _ o => dstIs o j : Nat → Oper → Bool) pre.length r.o = true) := by
    intro j post r pre e
    refine ⟨(hat _ _ _ e).1, fun hs => ?_⟩
    unfold gT at hs
    show dstIs r.o j = true
    cases hb : dstIs r.o j with
    | true => rfl
    | false => rw [hb] at hs; cases hs
  have hwM : ∀ x, ∀ post r pre, recs = post ++ r :: pre → l[pre.length]? = some r.o ∧ ((gM x r).isSome = true → (fun k o => Wn X k o x : Nat → Oper → Bool) pre.length r.o = true) := by
    intro x post r pre e
    refine ⟨(hat _ _ _ e).1, fun hs => (hat _ _ _ e).2 x ?_⟩
    unfold gM at hs
    cases hb : mget r.ms x with
    | some b => rfl
    | none => rw [hb] at hs; cases hs
  have later : ∀ {β : Type} {g : DR → Option β} {wg : Nat → Oper → Bool}, (∀ post r pre, recs = post ++ r :: pre → l[pre.length]? = some r.o ∧ ((g r).isSome = true → wg pre.length r.o = true)) → ((g r).isSome = true → memU wg cls pre.length 0 l = false) →
      ∀ p1 r' p2, post = p1 ++ r' :: p2 → D (p2 ++ r :: pre).length = true → (g r).isSome = true → g r' = none := by
    intro β g wg hw hm p1 r' p2 e2 hd hsome
    have e3 : recs = p1 ++ r' :: (p2 ++ r :: pre) := by rw [e, e2]; simp
    obtain ⟨hoj, hwg⟩ := hw _ _ _ e3
    have := memU_false (k0 := 0) (hm hsome) hoj (by rw [Nat.zero_add]; exact inU_of hp hc hro hoj hDi hd (ha.lt _ (by simp; omega)))
    rw [Nat.zero_add] at this
    cases hg : g r' with
    | none => rfl
    | some v => rw [hg] at hwg; rw [hwg rfl] at this; cases this
  unfold stD
  congr 1
  · funext j
    have := atR_insert (g := gT j) (b := base.t j) (r := r) (pre := pre) (post := post) hDi hD' (later (wg := fun _ o => dstIs o j) (hwT j) fun hs => ?_)
    · simp only [e]
      rw [this]
      unfold gT Sx.putT dstIs
      cases hdst : r.o.dst with
      | none => rfl
      | some d =>
        simp only [up]
        have : Nat.beq j d = Nat.beq d j := by
          cases h1 : Nat.beq j d with
          | true => rw [Nat.eq_of_beq_eq_true h1]; simp
          | false => cases h2 : Nat.beq d j with
            | false => rfl
            | true => rw [Nat.eq_of_beq_eq_true h2] at h1; simp at h1
        rw [this]
        cases Nat.beq d j <;> rfl
    · have := (hwT j post r pre e).2 hs
      exact ha.dst j (dstIs_eq this)
  · funext x
    have := atR_insert (g := gM x) (b := base.m x) (r := r) (pre := pre) (post := post) hDi hD' (later (wg := fun k o => Wn X k o x) (hwM x) fun hs => Wn_apart ha hx ((hwM x post r pre e).2 hs))
    simp only [e]
    rw [this]
    unfold gM upm
    cases mget r.ms x <;> rfl
theorem stD_le {D : Nat → Bool} {recs post pre : List DR} {r : DR} (hp : Pred l cls) (hc : Clo l D) (e : recs = post ++ r :: pre)
    (hat : ∀ post r pre, recs = post ++ r :: pre → l[pre.length]? = some r.o ∧ ∀ x, (mget r.ms x).isSome = true → Wn X pre.length r.o x = true)
    (ha : Apart l cls X pre.length r.o) (hx : xOk l cls X X = true) (hDi : D pre.length = false) (hready : ∀ e ∈ r.o.after.toList, Region.binds .any e = true → D e.on = true) {ms : List (Nat × Blk)} (hms : ∀ x, (mget ms x).isSome = true → Wn X pre.length r.o x = true) :
    Le (dx r.o) ms (can l cls X base pre) (stD D base recs) ∧ (memU (fun k o' => Wany X k o') cls pre.length 0 l = false → (stD D base recs).m = (can l cls X base pre).m) := by
  have hwT : ∀ j, ∀ post r pre, recs = post ++ r :: pre → l[pre.length]? = some r.o ∧ ((gT j r).isSome = true → (fun _ o => dstIs o j : Nat → Oper → Bool) pre.length r.o = true) := by
    intro j post r pre e
    refine ⟨(hat _ _ _ e).1, fun hs => ?_⟩
    unfold gT at hs
    show dstIs r.o j = true
    cases hb : dstIs r.o j with
    | true => rfl
    | false => rw [hb] at hs; cases hs
  have hwM : ∀ x, ∀ post r pre, recs = post ++ r :: pre → l[pre.length]? = some r.o ∧ ((gM x r).isSome = true → (fun k o => Wn X k o x : Nat → Oper → Bool) pre.length r.o = true) := by
    intro x post r pre e
    refine ⟨(hat _ _ _ e).1, fun hs => (hat _ _ _ e).2 x ?_⟩
    unfold gM at hs
    cases hb : mget r.ms x with
    | some b => rfl
    | none => rw [hb] at hs; cases hs
  refine ⟨⟨fun j => ?_, fun y => ?_, ?_, fun y hy => ?_⟩, fun hm => ?_⟩
  · simp only [can, stD]
    cases hm : memU (fun _ o => dstIs o j) cls pre.length 0 l with
    | true => exact .inl rfl
    | false => exact .inr (can_agree hp hc e (hwT j) ha hDi hready hm)
  · simp only [can, stD]
    cases hm : memU (fun k o => Wn X k o y) cls pre.length 0 l with
    | true => exact .inl rfl
    | false => exact .inr (can_agree hp hc e (hwM y) ha hDi hready hm)
  · simp only [can, stD, ha.dx]
    exact can_agree hp hc e (hwM _) ha hDi hready ha.dx
  · have hm := Wn_apart ha hx (hms y hy)
    simp only [can, stD, hm]
    exact can_agree hp hc e (hwM y) ha hDi hready hm
  · funext y
    have hm' := memU_mono (f := fun k o' => Wn X k o' y) (fun k o h => Wn_any h) hm
    simp only [can, stD, hm']
    exact can_agree hp hc e (hwM y) ha hDi hready hm'
def updC (c : Nat → Cho) (i : Nat) (u : Cho) : Nat → Cho := fun k => if k = i then u else c k
theorem draw_anyC (hnd : E.rnd.isSome = true → l.all nodef = true) (hp : Pred l cls) (hap : apartOk l cls X 0 l = true) (hx : xOk l cls X X = true) {ch : Nat → Option Fam} {R : (Nat → Cho) → List DR} (hall : ∀ c, AllC P E l cls X base ch c (R c)) (hlen : ∀ c, (R c).length = l.length)
    (hdep : ∀ c c' j, j < l.length → (∀ k, (tb (cls.getD j 0) k = true ∨ (k = j ∧ (ch j).isSome = true)) → c k = c' k) → (R c)[l.length - 1 - j]? = (R c')[l.length - 1 - j]?) (hk : ∀ c, K .normal (stD (fun _ => true) base (R c))) :
    ∀ (fuel : Nat) (listed : Array Bool) (a : Act) (w : World), listed.size = l.length → Clo l (lst listed) → cnt (lst listed) l.length ≤ fuel → (∃ c ρ, Sat E ρ (stD (lst listed) base (R c)) a w) → wpAnyIn (fenR E.rnd) 6 P .any l.toArray (QK E K) fuel listed a w := by
  have hAt : ∀ {i : Nat} {o : Oper}, l[i]? = some o → Apart l cls X i o := fun {i o} ho => by
    have := apartOk_spec hap ho
    rw [Nat.zero_add] at this
    exact this
  have done : ∀ (listed : Array Bool) (a : Act) (w : World), (∀ k, k < l.length → lst listed k = true) → (∃ c ρ, Sat E ρ (stD (lst listed) base (R c)) a w) → QK E K .normal a w := by
    rintro listed a w hl ⟨c, ρ, hs⟩
    have : stD (lst listed) base (R c) = stD (fun _ => true) base (R c) := by
      have h : ∀ {β : Type} (g : DR → Option β) (b : β), atR (lst listed) g (R c) b = atR (fun _ => true) g (R c) b := fun g b =>
        atR_agree fun post r pre e _ => hl _ (by rw [← hlen c, e]; simp; omega)
      unfold stD
      congr 1
      · funext j; exact h _ _
      · funext j; exact h _ _
    rw [this] at hs
    exact ⟨ρ, _, hs, hk c⟩
  intro fuel
  induction fuel with
  | zero =>
    intro listed a w hsz hc hcnt hs
    have hl := cnt_zero (Nat.le_zero.1 hcnt)
    refine ⟨?_, done listed a w hl hs⟩
    cases hr : Region.ready .any l.toArray listed with
    | nil => rfl
    | cons i rs =>
      have := (mem_ready (l := l) (listed := listed) (i := i)).1 (by rw [hr]; exact List.mem_cons_self)
      have h1 := hl i this.1
      have h2 := this.2.1
      rw [lst, Array.getD_eq_getD_getElem?] at h1
      rw [Array.getD_eq_getD_getElem?] at h2
      cases hx : listed[i]? with
      | none => rw [hx] at h1; cases h1
      | some b => rw [hx] at h1 h2; simp at h1 h2; rw [h1] at h2; cases h2
  | succ fuel ih =>
    intro listed a w hsz hc hcnt hs
    refine ⟨fun hr => done listed a w ?_ hs, ?_⟩
    · intro k
      induction k using Nat.strongRecOn with
      | _ k ihk =>
        intro hk
        cases hd : lst listed k with
        | true => rfl
        | false =>
          exfalso
          obtain ⟨o, ho⟩ : ∃ o, l[k]? = some o := ⟨l[k], List.getElem?_eq_getElem hk⟩
          have : k ∈ Region.ready .any l.toArray listed := by
            refine mem_ready.2 ⟨hk, ?_, o, ho, fun e he hb => ihk _ ((hAt ho).on e he hb) (Nat.lt_trans ((hAt ho).on e he hb) hk)⟩
            rw [lst, Array.getD_eq_getD_getElem?, Array.getElem?_eq_getElem (by rw [hsz]; exact hk)] at hd
            rw [Array.getD_eq_getD_getElem?, Array.getElem?_eq_getElem (by rw [hsz]; exact hk)]
            exact hd
          rw [hr] at this
          cases this
    · intro i hi
      obtain ⟨c, ρ, hs⟩ := hs
      obtain ⟨hi1, hi2, o, ho, hready⟩ := mem_ready.1 hi
      have hDi : lst listed i = false := by
        rw [lst, Array.getD_eq_getD_getElem?, Array.getElem?_eq_getElem (by rw [hsz]; exact hi1)]
        rw [Array.getD_eq_getD_getElem?, Array.getElem?_eq_getElem (by rw [hsz]; exact hi1)] at hi2
        exact hi2
      have hD' : ∀ k, lst (listed.setIfInBounds i true) k = (Nat.beq k i || lst listed k) := fun k => lst_set (by rw [hsz]; exact hi1)
      have hcnt' : cnt (lst (listed.setIfInBounds i true)) l.length ≤ fuel := by
        have := cnt_set (D := lst listed) (D' := lst (listed.setIfInBounds i true)) hi1 hDi (by rw [hD']; simp) fun k hk => by
          rw [hD']
          cases hb : Nat.beq k i with
          | false => rfl
          | true => exact absurd (Nat.eq_of_beq_eq_true hb) hk
        omega
      have ha := hAt ho
      have hc' : Clo l (lst (listed.setIfInBounds i true)) := by
        intro k ok hok hk e he hb
        rw [hD'] at hk ⊢
        rw [Bool.or_eq_true] at hk ⊢
        rcases hk with hk | hk
        · have := Nat.eq_of_beq_eq_true hk
          subst this
          rw [ho] at hok
          injection hok with hok
          subst hok
          exact .inr (hready e he hb)
        · exact .inr (hc k ok hok hk e he hb)
      have hat : ∀ c, ∀ post r pre, R c = post ++ r :: pre → l[pre.length]? = some r.o ∧ ∀ x, (mget r.ms x).isSome = true → Wn X pre.length r.o x = true := fun c post r pre e => ⟨((hall c).at e).1, ((hall c).at e).2.1⟩
      obtain ⟨post, r, pre, e, hpre⟩ := splitAt (R c) i (by rw [hlen]; exact hi1)
      obtain ⟨hro, hnames, hstep⟩ := (hall c).at e
      rw [hpre] at hro hnames hstep
      have hor : r.o = o := by rw [hro] at ho; injection ho
      have hno : E.rnd.isSome = true → nodef o = true := fun hr => List.all_eq_true.1 (hnd hr) o (List.mem_of_getElem? ho)
      have go : (if Region.wanted o (yielded l.toArray a.tmps) = true then o.wp P a w (wpAnyIn (fenR E.rnd) 6 P .any l.toArray (QK E K) fuel (listed.setIfInBounds i true)) (QK E K) ∨ YieldW P o a w (wpAnyIn (fenR E.rnd) 6 P .any l.toArray (QK E K) fuel (listed.setIfInBounds i true)) else wpAnyIn (fenR E.rnd) 6 P .any l.toArray (QK E K) fuel (listed.setIfInBounds i true) (a.put o.dst undef) w) := by
        cases hch : ch i with
        | none =>
          rw [hch] at hstep
          have hl := (stD_le (base := base) (ms := r.ms) hp hc e (hat c) (by rw [hpre, hor]; exact ha) hx (by rw [hpre]; exact hDi) (by rw [hor]; exact hready) (by rw [hpre]; exact hnames)).1
          have := hstep _ hl ρ a w hs _ (QK E K) fun ρ' a' w' hs' => by
            rw [stD_next (D' := lst (listed.setIfInBounds i true)) hp hc e (hat c) (by rw [hpre, hor]; exact ha) hx (by rw [hpre]; exact hDi) (by rw [hpre]; exact hD')] at hs'
            exact ih (listed.setIfInBounds i true) a' w' (by simp [hsz]) hc' hcnt' ⟨c, ρ', hs'⟩
          rw [← hor]
          exact this
        | some F =>
          rw [hch] at hstep
          obtain ⟨h1, h2, h3, h4, h5⟩ := hstep
          have hl := stD_le (base := base) (ms := nmM F.nm) hp hc e (hat c) (by rw [hpre, hor]; exact ha) hx (by rw [hpre]; exact hDi) (by rw [hor]; exact hready) (by rw [hpre]; exact fun x hx => h4 x (nmM_some hx))
          have := h3 _ hl.1 (fun hf => hl.2 (by rw [hpre]; exact h5 hf)) ρ a w hs _ (QK E K) fun u ρ' a' w' hs' => by
            have hsame : stD (lst listed) base (R c) = stD (lst listed) base (R (updC c i u)) := by
              have h : ∀ {β : Type} (g : DR → Option β) (b : β), atR (lst listed) g (R c) b = atR (lst listed) g (R (updC c i u)) b := fun g b =>
                atR_same (by rw [hlen, hlen]) fun j hj hDj => by
                  rw [hlen] at hj
                  obtain ⟨oj, hoj⟩ : ∃ o, l[j]? = some o := ⟨l[j], List.getElem?_eq_getElem hj⟩
                  rw [hlen, hlen]
                  refine hdep _ _ j hj fun k hk => ?_
                  have : k ≠ i := by
                    rintro rfl
                    rcases hk with hk | ⟨rfl, _⟩
                    · rw [tb_eq] at hk
                      have := hp _ j oj hoj (fun e he hbd => hc j oj hoj hDj e he hbd) hc k hk
                      rw [hDi] at this; cases this
                    · rw [hDi] at hDj; cases hDj
                  simp [updC, this]
              unfold stD
              congr 1
              · funext j; exact h _ _
              · funext j; exact h _ _
            obtain ⟨post', r', pre', e', hpre'⟩ := splitAt (R (updC c i u)) i (by rw [hlen]; exact hi1)
            obtain ⟨hro', hnames', hstep'⟩ := (hall (updC c i u)).at e'
            rw [hpre'] at hro' hnames' hstep'
            have hor' : r'.o = o := by rw [hro'] at ho; injection ho
            rw [hch] at hstep'
            have e1 : F.tv u = r'.tv := by rw [hstep'.1]; simp [updC]
            have e2 : F.ms u = r'.ms := by rw [hstep'.2.1]; simp [updC]
            rw [hsame, e1, e2, hor, ← hor'] at hs'
            rw [stD_next (D' := lst (listed.setIfInBounds i true)) hp hc e' (hat _) (by rw [hpre', hor']; exact ha) hx (by rw [hpre']; exact hDi) (by rw [hpre']; exact hD')] at hs'
            exact ih (listed.setIfInBounds i true) a' w' (by simp [hsz]) hc' hcnt' ⟨_, ρ', hs'⟩
          rw [← hor]
          exact this
      unfold wpOpIn
      rw [show l.toArray[i]? = some o by rw [List.getElem?_toArray]; exact ho]
      simp only
      split
      · rename_i hw
        rw [if_pos hw] at go
        rcases go with this | this
        · exact op_in hno this
        · exact yield_in hno this
      · rename_i hw
        rw [if_neg hw] at go
        exact ⟨fun _ _ => trivial, go⟩
/-! ### The chain of records, for one choice -/
def GC (P : Program) (E : Env) (K : Exit → St → Prop) (l : List Oper) (cls : List Nat) (X : List (Nat × Nat)) (base : St) (ch : Nat → Option Fam) (c : Nat → Cho) (recs : List DR) (rest : List Oper) (t : Nat → TV) (m : Mem) (R : List DR) : Prop :=
  AllC P E l cls X base ch c recs → l.drop recs.length = rest → stD (fun _ => true) base recs = ⟨t, m⟩ → AllC P E l cls X base ch c R ∧ R.length = l.length ∧ K .normal (stD (fun _ => true) base R)
theorem stD_all {recs : List DR} {r : DR} {t : Nat → TV} {m : Mem} (he : stD (fun _ => true) base recs = ⟨t, m⟩) : stD (fun _ => true) base (r :: recs) = ⟨Sx.putT t r.o.dst r.tv, upm m r.ms⟩ := by
  have h1 := congrArg St.t he
  have h2 := congrArg St.m he
  unfold stD
  congr 1
  · funext j
    have := congrFun h1 j
    simp only [stD] at this
    simp only [atR, gT, this]
    unfold Sx.putT dstIs
    cases hdst : r.o.dst with
    | none => rfl
    | some d =>
      simp only [up]
      have : Nat.beq j d = Nat.beq d j := by
        cases h1 : Nat.beq j d with
        | true => rw [Nat.eq_of_beq_eq_true h1]; simp
        | false => cases h2 : Nat.beq d j with
          | false => rfl
          | true => rw [Nat.eq_of_beq_eq_true h2] at h1; simp at h1
      rw [this]
      cases Nat.beq d j <;> rfl
  · funext x
    have := congrFun h2 x
    simp only [stD] at this
    simp only [atR, gM, this]
    unfold upm
    cases mget r.ms x <;> rfl
variable {ch : Nat → Option Fam} {c : Nat → Cho} {recs R : List DR} {o : Oper} {rest : List Oper} {t : Nat → TV} {m : Mem}
theorem GC.nil (h : K .normal ⟨t, m⟩) : GC P E K l cls X base ch c recs [] t m recs := by
  intro hall hd he
  refine ⟨hall, ?_, by rw [he]; exact h⟩
  have hle : recs.length ≤ l.length := by
    cases recs with
    | nil => simp
    | cons r pre => have := (List.getElem?_eq_some_iff.1 hall.2.1).1; simp; omega
  rw [List.drop_eq_nil_iff] at hd
  omega
theorem GC.step (i : Nat) (hi : recs.length = i) (hch : ch i = none) {tv : TV} {ms : List (Nat × Blk)} (h : Steps P E l.toArray o (canF l cls X base i recs) tv ms) (hn : Wok X i o ms = true)
    (k : GC P E K l cls X base ch c (⟨o, tv, ms⟩ :: recs) rest (Sx.putT t o.dst tv) (upm m ms) R) : GC P E K l cls X base ch c recs (o :: rest) t m R := by
  intro hall hd he
  have ho : l[recs.length]? = some o := by
    have := congrArg (fun l => l[0]?) hd
    simpa using this
  rw [canF_eq hi] at h
  refine k ⟨hall, ho, fun x hx => by rw [hi]; exact Wok_spec hn hx, ?_⟩ (by rw [List.length_cons, ← List.drop_drop, hd]; rfl) (stD_all he)
  rw [hi, hch]
  exact h
theorem GC.choice (i : Nat) (hi : recs.length = i) (F : Fam) (hch : ch i = some F) (h : StepsC P E l.toArray o (canF l cls X base i recs) F) (hn : F.nm.all (fun x => Wn X i o x) = true) (hms : ∀ u x, (mget (F.ms u) x).isSome = true → x ∈ F.nm)
    (hf : (!F.full || !memU (fun k o' => Wany X k o') cls i 0 l) = true)
    (k : GC P E K l cls X base ch c (⟨o, F.tv (c i), F.ms (c i)⟩ :: recs) rest (Sx.putT t o.dst (F.tv (c i))) (upm m (F.ms (c i))) R) : GC P E K l cls X base ch c recs (o :: rest) t m R := by
  intro hall hd he
  have ho : l[recs.length]? = some o := by
    have := congrArg (fun l => l[0]?) hd
    simpa using this
  rw [canF_eq hi] at h
  have hn' : ∀ x ∈ F.nm, Wn X i o x = true := fun x hx => List.all_eq_true.1 hn x hx
  refine k ⟨hall, ho, fun x hx => by rw [hi]; exact hn' x (hms _ x hx), ?_⟩ (by rw [List.length_cons, ← List.drop_drop, hd]; rfl) (stD_all he)
  rw [hi, hch]
  exact ⟨rfl, rfl, h, hn', fun hf' => by rw [hf'] at hf; simpa using hf⟩
def freeC (ch : Nat → Option Fam) : Nat → Nat → Bool
  | _, 0 => true
  | i, n + 1 => (ch i).isNone && freeC ch (i + 1) n
theorem GC.run (hT : Tab.fine P T) {rest' : List Oper} {i : Nat} {recs' : List DR} {t' : Nat → TV} {m' : Mem} {obs obs' : List Prop} (hi : recs.length = i) (hfr : ∀ j, i ≤ j → j < recs'.length → ch j = none) (h : runD T E.N l cls X base rest i recs t m obs = .mk recs' rest' t' m' obs') (ho : AllP obs')
    (k : GC P E K l cls X base ch c recs' rest' t' m' R) : GC P E K l cls X base ch c recs rest t m R ∧ AllP obs ∧ recs.length ≤ recs'.length := by
  induction rest generalizing recs t m obs i with
  | nil => injection h with h1 h2 h3 h4 h5; subst h1; subst h2; subst h3; subst h4; subst h5; exact ⟨k, ho, Nat.le_refl _⟩
  | cons o r ih =>
    rw [runD] at h
    split at h
    · injection h with h1 h2 h3 h4 h5; subst h1; subst h2; subst h3; subst h4; subst h5; exact ⟨k, ho, Nat.le_refl _⟩
    · rename_i tv m1 ob he
      rw [forceMs_eq] at h
      split at h
      · injection h with h1 h2 h3 h4 h5; subst h1; subst h2; subst h3; subst h4; subst h5; exact ⟨k, ho, Nat.le_refl _⟩
      · rename_i hw
        simp only [forceO_eq, app_eq, forceU_eq, upmE_eq] at h
        have key : (GC P E K l cls X base ch c (⟨o, tv, msS (canF l cls X base i recs) o m1⟩ :: recs) r (Sx.putT t o.dst tv) (upm m (msS (canF l cls X base i recs) o m1)) R ∧ AllP (ob ++ obs) ∧ recs.length + 1 ≤ recs'.length) := by
          have hfr' : ∀ j, i + 1 ≤ j → j < recs'.length → ch j = none := fun j h1 h2 => hfr j (by omega) h2
          split at h
          · rename_i d hd; rw [hd]; have := ih (by simp [hi]) hfr' h; exact ⟨this.1, this.2.1, by simpa using this.2.2⟩
          · rename_i hd; rw [hd]; have := ih (by simp [hi]) hfr' h; exact ⟨this.1, this.2.1, by simpa using this.2.2⟩
        obtain ⟨k1, k2, k3⟩ := key
        rw [AllP_append] at k2
        exact ⟨GC.step i hi (hfr i (Nat.le_refl _) (by omega)) (Steps.op hT he k2.1) hw k1, k2.2, by omega⟩
theorem freeC_spec {i n : Nat} (h : freeC ch i n = true) : ∀ j, i ≤ j → j < i + n → ch j = none := by
  induction n generalizing i with
  | zero => intro j h1 h2; omega
  | succ n ih =>
    simp only [freeC, Bool.and_eq_true] at h
    intro j h1 h2
    by_cases e : j = i
    · subst e
      cases hc : ch j with
      | none => rfl
      | some F => rw [hc] at h; cases h.1
    · exact ih h.2 j (by omega) (by omega)
theorem GC.more (hT : Tab.fine P T) {rest' : List Oper} {recs' : List DR} {t' : Nat → TV} {m' : Mem} {obs' : List Prop} (i : Nat) (hi : recs.length = i) (h : runD T E.N l cls X base rest i recs t m [] = .mk recs' rest' t' m' obs') (hfr : freeC ch i (recs'.length - i) = true) (ho : AllP obs')
    (k : GC P E K l cls X base ch c recs' rest' t' m' R) : GC P E K l cls X base ch c recs rest t m R :=
  (GC.run hT hi (fun j h1 h2 => freeC_spec hfr j h1 (by omega)) h ho k).1
theorem G.drawC (hm : P.follows .mixedOrders = true) {id : Nat} {R : (Nat → Cho) → List DR} (hcls : clGo [] l = cls) (hap : apartOk l cls X 0 l = true) (hx : xOk l cls X X = true) {t : Nat → TV} {m : Mem} (h : ∀ c, GC P E K l cls X ⟨t, m⟩ ch c [] l t m (R c))
    (hdep : ∀ c c' j, j < l.length → (∀ k, (tb (cls.getD j 0) k = true ∨ (k = j ∧ (ch j).isSome = true)) → c k = c' k) → (R c)[l.length - 1 - j]? = (R c')[l.length - 1 - j]?) : G P E K (.region id l.toArray true) ⟨t, m⟩ := by
  have h' := fun c => h c trivial rfl rfl
  intro hn ρ a w hs
  have hp : Pred l cls := by rw [← hcls]; exact clGo_spec l
  refine wpIn_region_any hm ?_
  have hw : Below w.heap.size w { w with drawn := w.drawn + 1 } := ⟨rfl, rfl, rfl, Nat.le_refl _, fun _ _ => rfl⟩
  have hl : ∀ k, lst (Array.replicate l.toArray.size false) k = false := by
    intro k
    simp only [lst, Array.getD_eq_getD_getElem?, List.size_toArray, Array.getElem?_replicate]
    split <;> rfl
  refine draw_anyC (fun hr => by have := hn hr; simpa [nd] using this) hp hap hx (fun c => (h' c).1) (fun c => (h' c).2.1) hdep (fun c => (h' c).2.2) l.toArray.size _ a _ (by simp) (fun i o _ hi => by rw [hl] at hi; cases hi) ?_ ⟨fun _ => (undef, fun _ => False), ρ, ?_⟩
  · have : ∀ (D : Nat → Bool) n, cnt D n ≤ n := by
      intro D n
      induction n with
      | zero => exact Nat.le_refl _
      | succ n ih => simp only [cnt]; split <;> omega
    simpa using this _ l.length
  · have : ∀ rs, stD (lst (Array.replicate l.toArray.size false)) ⟨t, m⟩ rs = ⟨t, m⟩ := by
      intro rs
      have h : ∀ {β : Type} (g : DR → Option β) (b : β) (rs : List DR), atR (lst (Array.replicate l.toArray.size false)) g rs b = b := by
        intro β g b rs
        induction rs with
        | nil => rfl
        | cons r rs ih => simp only [atR, hl, ih]
      unfold stD
      congr 1
      · funext j; exact h _ _ _
      · funext j; exact h _ _ _
    rw [this]
    exact hs.below hw
/-! ### Choices: calls that answer anything, calls of yield -/
def sayF (x : Nat) (val : Cho → Value) (S : Cho → Nat → Prop) (R : Cho → World → Prop) : Fam := ⟨fun u => toTV (val u), fun u => [(x, .say (S u) (R u))], [x], false⟩
theorem StepsC.callSay {ops : Array Oper} {o : Oper} {c : Call} {f : FuncId} {avs : List AV} {caps : List Cap} {C : St} (x : Nat) (val : Cho → Value) (S : Cho → Nat → Prop) (R : Cho → World → Prop) (hg : o.guard = none) (hop : o.op = .call c) (he : callE C.t c = .mk f avs caps) (hd : dstOk E.N o.dst = true) (hx : C.m x = none)
    (hcf : ∀ (args : Array Value) (w : World), (callFunc f args).run P w = .ok (.enter f args) w)
    (hc : ∀ m, LeM C.m m → ∀ ρ w, SatM E ρ m w → (∀ v ∈ avs, v.ok ρ m) → Calls P f (avs.map (AV.conc ρ) ++ caps.map (Cap.conc ρ)).toArray w fun e w' => ∃ u, e = .returned (val u) ∧ Below w.heap.size w w' ∧ R u w' ∧ (∀ k, S u k → w.heap.size ≤ k ∧ k < w'.heap.size) ∧ Steady (S u) (R u)) :
    StepsC P E ops o C (sayF x val S R) := by
  intro st hle _ ρ a w hs Kc Q hk
  have hs' := hs.weakT hle.t
  obtain ⟨hr, hok, hok2⟩ := call_run hs' hop he hcf
  rw [if_pos (by simp [Region.wanted, hg])]
  refine .inl ?_
  unfold Oper.wp
  rw [hr]
  refine (hc st.m hle.m ρ w hs.mem hok).mono ?_
  rintro e w' ⟨u, rfl, hb, hR, hS, hst⟩
  refine hk u ρ _ w' ?_
  have hx' : st.m x = none := (hle.n x (nmM_mem (by simp [sayF]))).trans hx
  have e : upm st.m ((sayF x val S R).ms u) = up st.m x (some (.say (S u) (R u))) := upm_one _ _ _
  rw [e]
  exact ((hs.below hb).remem0 (hs.mem.told hb hx' hR hS hst) (fun z hz => isSome_up z hz)).putT (dstOk_lt hd) (toTV_rep _ _ _)
/-- A call under a guard that is open or shut. -/
def sayG (x j : Nat) (want cb : Bool) (val : Cho → AV) (S : Cho → Nat → Prop) (R : Cho → World → Prop) : Fam := ⟨fun u => .grd j want cb (val u), fun u => [(x, .say (fun k => cb = true ∧ S u k) (fun w => cb = true → R u w))], [x], false⟩
theorem StepsC.callSayG {ops : Array Oper} {o : Oper} {c : Call} {j : Nat} {want cb : Bool} {f : FuncId} {avs : List AV} {caps : List Cap} {C : St} (x : Nat) (val : Cho → AV) (S : Cho → Nat → Prop) (R : Cho → World → Prop) (hg : o.guard = some (j, want)) (hb : guardB ops C.t j want = some cb)
    (hob : AllP (stripObs C.t j want cb (slotsOf o.op.operands.toList))) (hop : o.op = .call c) (he : callE (tG C.t j want (slotsOf o.op.operands.toList)) c = .mk f avs caps) (hd : dstOk E.N o.dst = true) (hx : C.m x = none)
    (hcf : ∀ (args : Array Value) (w : World), (callFunc f args).run P w = .ok (.enter f args) w) (hval : ∀ u ρ m, (val u).ok ρ m ∧ (val u).conc ρ = (val u).conc fun _ => (0, 0))
    (hc : cb = true → ∀ m, LeM C.m m → ∀ ρ w, SatM E ρ m w → (∀ v ∈ avs, v.ok ρ m) → Calls P f (avs.map (AV.conc ρ) ++ caps.map (Cap.conc ρ)).toArray w fun e w' => ∃ u, e = .returned ((val u).conc fun _ => (0, 0)) ∧ Below w.heap.size w w' ∧ R u w' ∧ (∀ k, S u k → w.heap.size ≤ k ∧ k < w'.heap.size) ∧ Steady (S u) (R u)) :
    StepsC P E ops o C (sayG x j want cb val S R) := by
  intro st hle _ ρ a w hs Kc Q hk
  have hs' := hs.weakT hle.t
  have hw := wanted_cond (ops := ops) hs' hg hb
  have hx' : st.m x = none := (hle.n x (nmM_mem (by simp [sayG]))).trans hx
  have e : ∀ u, upm st.m ((sayG x j want cb val S R).ms u) = up st.m x (some (.say (fun k => cb = true ∧ S u k) (fun w => cb = true → R u w))) := fun u => upm_one _ _ _
  rw [hw]
  cases hcb : cb with
  | true =>
    subst hcb
    rw [if_pos rfl]
    refine .inl ?_
    obtain ⟨hr, hok, hok2⟩ := call_run (hs'.tG hob rfl) hop he hcf
    unfold Oper.wp
    rw [hr]
    refine (hc rfl st.m hle.m ρ w hs.mem hok).mono ?_
    rintro e' w' ⟨u, rfl, hbl, hR, hS, hst⟩
    refine hk u ρ _ w' ?_
    rw [e]
    refine ((hs.below hbl).remem0 (hs.mem.told hbl hx' (fun _ => hR) (fun k hk => hS k hk.2) (Steady.imp fun _ => hst.mono fun k hk => ⟨rfl, hk⟩)) (fun z hz => isSome_up z hz)).putT (dstOk_lt hd) ⟨fun _ => ⟨(hval u _ _).1, ((hval u ρ st.m).2).symm⟩, fun h => by cases h⟩
  | false =>
    subst hcb
    rw [if_neg (by simp)]
    refine hk (undef, fun _ => False) ρ _ w ?_
    rw [e]
    refine ((hs.remem0 (hs.mem.told (Below.refl _ _) hx' (fun h => by cases h) (fun k hk => by cases hk.1) (Steady.imp fun h => by cases h)) (fun z hz => isSome_up z hz)).putT (dstOk_lt hd) ⟨(fun h => by cases h), fun _ => rfl⟩)
end
end Go.Sx
/- The symbolic executor, part AR: appending one element in regions that draw: the answer's capacity, or the answer itself, is chosen as it is carried out. Generic over P. -/
set_option linter.unusedVariables false
set_option linter.unusedSimpArgs false
namespace Go.Sx
open Go.RowKit
section
variable {P : Program} {E : Env} {K : Exit → St → Prop} {T : Tab}
/-- How append of one element onto a row runs: in place, or in a new block. -/
theorem append_core {t ty e size bytes : Nat} {z : Value} (hp : ApT P t e size bytes z) {w : World} {b q n c c1 room : Nat} {el : Nat → List Value} {vs : List Value} (hown : OwnAt w b e n size el room) (hroom : (c - n) * size ≤ room) (hnews : ∀ j u, vs[j]? = some u → w.cell? ((⟨q, 0, none⟩ : Addr).add j) = some u)
    (hv : vs.length = size) (h1 : ∀ u ∈ vs, u.oneCell' = true) (hlen : ∀ k, k < n → (el k).length = size) (b1 : n + 1 ≤ maxLen) (b2 : (n + 1) * bytes ≤ 140737488355328) :
    ∃ g c' w', n + 1 ≤ c' ∧ (Builtin.append_ #[t, t] ty #[.slice (some ⟨b, 0, none⟩) n c, .slice (some ⟨q, 0, none⟩) 1 c1]).run P w = .ok (.slice (some ⟨g, 0, none⟩) (n + 1) c') w' ∧ Fr w [b] w' ∧
      (g = b ∨ w.heap.size ≤ g) ∧ g < w'.heap.size ∧ OwnAt w' g e (n + 1) size (elN el n vs) ((c' - (n + 1)) * size) := by
  obtain ⟨i, hi, hz, hsi, hbi⟩ := hp.info
  have hl1 : vs.length = 1 * size := by rw [hv, Nat.one_mul]
  obtain ⟨hf1, hf2⟩ := hown.hold
  by_cases hr : n + 1 ≤ c
  · obtain ⟨cur, g1, g2, g3⟩ := hown
    have hle1 : (n + 1) * size ≤ n * size + room := by
      have := Nat.mul_le_mul_right size (show 1 ≤ c - n by omega)
      rw [Nat.add_mul]
      omega
    have hfit : n * i.size + vs.length ≤ cur.size := by rw [hsi, hv]; rw [Nat.add_mul] at hle1; omega
    have hrun := run_append_room (P := P) w t ty e i hp.ht hi b n c cur g1 ⟨q, 0, none⟩ 1 c1 vs (by rw [hsi]; exact hl1) hnews h1 hr hfit
    refine ⟨b, c, _, hr, hrun, ⟨rfl, rfl, rfl, by simp, fun k hk hn => setRow_other w b k _ (by simpa using hn)⟩, .inl rfl, by simpa using lt_of_heap g1, ⟨_, setRow_heap w b cur _ e _ g1, ?_, fun i' hi' => ⟨?_, fun j hj => ?_⟩⟩⟩
    · simp only [List.size_toArray, List.length_append, List.length_take, List.length_drop, Array.length_toList]
      have : (n + 1) * size + (c - (n + 1)) * size = n * size + (c - n) * size := by
        rw [← Nat.add_mul, ← Nat.add_mul]
        congr 1
        omega
      rw [hsi] at hfit ⊢
      omega
    · by_cases h : i' < n
      · rw [elN_lt h]; exact hlen i' h
      · rw [show i' = n by omega, elN_eq]; exact hv
    · have hsz : n * i.size ≤ cur.size := by omega
      by_cases h : i' < n
      · have hlt : i' * size + j < n * size := by
          have := Nat.mul_le_mul_right size (show i' + 1 ≤ n from h)
          rw [Nat.add_mul] at this
          omega
        rw [elN_lt h, ← (g3 i' h).2 j hj]
        rw [hsi] at hsz ⊢
        simp only [List.getElem?_toArray]
        rw [List.append_assoc, List.getElem?_append_left (by simp; omega), List.getElem?_take, if_pos hlt]
        simp
      · have e1 : i' = n := by omega
        subst e1
        rw [elN_eq]
        rw [hsi] at hsz ⊢
        simp only [List.getElem?_toArray]
        have hl2 : (List.take (i' * size) cur.toList).length = i' * size := by simp; omega
        rw [List.append_assoc, List.getElem?_append_right (by rw [hl2]; omega), hl2, List.getElem?_append_left (by omega)]
        congr 1
        omega
  · obtain ⟨v', w', hrun, r1, r2⟩ := run_append_arg_grows (P := P) w t ty e i z size bytes hp.ht hi hz hsi hbi hp.hz hp.pos ⟨b, 0, none⟩ n c (flatE el 0 n) hf1 hf2 ⟨q, 0, none⟩ 1 c1 vs hl1 hnews (by omega) b1 b2
    rcases r1.2 with ⟨_, h0⟩ | ⟨g, c', cur, rfl, hbg, hgg, hnc, hcm, hcs, htake⟩
    · omega
    refine ⟨g, c', w', hnc, hrun, ⟨r2.os, r2.tape, r2.output, r2.size, fun k hk _ => r2.block k hk (by simp)⟩, .inr hbg, lt_of_heap hgg, ⟨cur, hgg, ?_, fun i' hi' => ⟨?_, fun j hj => ?_⟩⟩⟩
    · rw [hcs, ← Nat.add_mul]
      exact Nat.mul_le_mul_right _ (by omega)
    · by_cases h : i' < n
      · rw [elN_lt h]; exact hlen i' h
      · rw [show i' = n by omega, elN_eq]; exact hv
    · rw [← news_at hlen hv hi' hj, ← htake, List.getElem?_take, if_pos (by
        have := Nat.mul_le_mul_right size (show i' + 1 ≤ n + 1 from hi')
        rw [Nat.add_mul] at this
        omega)]
      simp
/-- The same onto nil. -/
theorem append_core0 {t ty e size bytes : Nat} {z : Value} (hp : ApT P t e size bytes z) {w : World} {q c1 : Nat} {vs : List Value} {el : Nat → List Value} (hq : q < w.heap.size) (hnews : ∀ j u, vs[j]? = some u → w.cell? ((⟨q, 0, none⟩ : Addr).add j) = some u)
    (hv : vs.length = size) (h1 : ∀ u ∈ vs, u.oneCell' = true) (b1 : 1 ≤ maxLen) (b2 : 1 * bytes ≤ 140737488355328) :
    ∃ g c' w', 1 ≤ c' ∧ (Builtin.append_ #[t, t] ty #[.slice none 0 0, .slice (some ⟨q, 0, none⟩) 1 c1]).run P w = .ok (.slice (some ⟨g, 0, none⟩) 1 c') w' ∧ Fr w [] w' ∧ w.heap.size ≤ g ∧ g < w'.heap.size ∧ OwnAt w' g e 1 size (elN el 0 vs) ((c' - 1) * size) := by
  have hone : ∀ i, i < 1 → elN el 0 vs i = vs := fun i hi => by
    have : i = 0 := by omega
    subst this
    exact elN_eq
  have hr' : RdRow w (some ⟨q, 0, none⟩) 1 size (elN el 0 vs) := fun _ => ⟨q, 0, rfl, hq, fun i hi => ⟨by rw [hone i hi]; exact hv, fun j hj => by
    have : i = 0 := by omega
    subst this
    rw [hone 0 hi]
    have hjl : j < vs.length := by omega
    have := hnews j vs[j] (List.getElem?_eq_getElem hjl)
    rw [List.getElem?_eq_getElem hjl, ← this, Addr.add_lit]
    congr 2
    omega⟩⟩
  rcases append_new (ty := ty) hp (A := none) (c := c1) hr' (fun i hi u hu => h1 u (by rw [hone i hi] at hu; exact hu)) b1 b2 with ⟨h0, _⟩ | ⟨_, v', w', hrun, r1, r2⟩
  · cases h0
  · rcases r1.2 with ⟨_, h0⟩ | ⟨g, c', cur, rfl, hbg, hgg, hnc, hcm, hcs, htake⟩
    · omega
    refine ⟨g, c', w', hnc, hrun, ⟨r2.os, r2.tape, r2.output, r2.size, fun k hk _ => r2.block k hk (by simp)⟩, hbg, lt_of_heap hgg, ⟨cur, hgg, ?_, fun i' hi' => ⟨by rw [hone i' hi']; exact hv, fun j hj => ?_⟩⟩⟩
    · rw [hcs, ← Nat.add_mul]
      exact Nat.mul_le_mul_right _ (by omega)
    · have e0 : i' = 0 := by omega
      subst e0
      have hfl : flatE (elN el 0 vs) 0 1 = vs := by simp [flatE, hone 0 hi']
      rw [hfl] at htake
      rw [hone 0 hi', ← htake, List.getElem?_take, if_pos (by omega)]
      simp
/-- A block of ours that lies where nothing else of ours does gets a name. -/
theorem SatM.addArr {ρ : Val} {m : Mem} {w : World} (h : SatM E ρ m w) {d g n sz room : Nat} {ty : TypeId} {el : Nat → List Value} (hd : m d = none) (hdb : d < 1000) (hg : E.w0.heap.size ≤ g) (ho : OwnAt w g ty n sz el room) (hn : ∀ y b, m y = some b → b.live → ¬ b.hits (ρ y) g) :
    SatM E (up ρ d (g, 0)) (up m d (some (.arr ty sz n el room))) w ∧ ∀ y, (m y).isSome = true → up ρ d (g, 0) y = ρ y := by
  have hρ : ∀ y, (m y).isSome = true → up ρ d (g, 0) y = ρ y := fun y hy => up_other _ _ (fun e => by subst e; simp [hd] at hy)
  refine ⟨⟨h.fr, fun p hp => ?_, fun y c hy => ?_, fun y z c f hy hz hc hf hne => ?_⟩, hρ⟩
  · have := h.bo p hp
    rw [up_other _ _ (by omega)]; exact this
  · by_cases e : y = d
    · subst e
      rw [up_same] at hy
      injection hy with hy
      subst hy
      exact ⟨by rw [up_same], .inl (by rw [up_same]; exact hg), by rw [up_same]; exact ho⟩
    · rw [up_other _ _ e] at hy
      have hk := h.ok y c hy
      have ey : up ρ d (g, 0) y = ρ y := up_other _ _ e
      cases c with
      | var ty cells =>
        have hcm : cells.map (AC.conc (up ρ d (g, 0))) = cells.map (AC.conc ρ) := List.map_congr_left fun c hm => AC.conc_mono hρ (hk.2.2.2 c hm)
        exact ⟨by rw [ey]; exact hk.1, by rw [ey]; exact hk.2.1, by rw [ey, hcm]; exact hk.2.2.1, fun c hc => AC.ok_mono (fun z hz => isSome_up z hz) hρ (hk.2.2.2 c hc)⟩
      | arr ty sz n el room =>
        obtain ⟨h1, h2, a, ha, hs, he⟩ := hk
        exact ⟨by rw [ey]; exact h1, by rw [ey]; exact h2, a, by rw [ey]; exact ha, hs, he⟩
      | obj Q =>
        obtain ⟨h1, h2, a, ha, hs⟩ := hk
        exact ⟨by rw [ey]; exact h1, by rw [ey]; exact h2, a, by rw [ey]; exact ha, hs⟩
      | ro sz n el => intro hn; rw [ey]; exact hk hn
      | say S R => exact hk
  · by_cases e1 : y = d
    · subst e1
      rw [up_same] at hy
      rw [up_other _ _ (Ne.symm hne)] at hz
      rw [up_same, up_other _ _ (Ne.symm hne)]
      exact hn z f hz hf
    · rw [up_other _ _ e1] at hy
      by_cases e2 : z = d
      · subst e2
        rw [up_same] at hz
        injection hz with hz
        subst hz
        rw [up_same, up_other _ _ e1]
        show ¬ _ = g
        have := hn y c hy (Blk.own_live hc)
        rw [Blk.own_hits hc] at this
        exact fun e => this e.symm
      · rw [up_other _ _ e2] at hz
        rw [up_other _ _ e1, up_other _ _ e2]
        exact h.ne y z c f hy hz hc hf hne
def dead (x : Nat) (m : Mem) : Mem := up m x (some (.ro 0 0 fun _ => []))
/-- A row of ours is given up; another block has turned. -/
theorem SatM.giveUp {ρ : Val} {m : Mem} {w w' : World} (h : SatM E ρ m w) {x : Nat} {b0 : Blk} (hx : m x = some b0) (ho : b0.own) (hxb : x < 1000) (hf : Fr w [(ρ x).1] w') : SatM E ρ (dead x m) w' := by
  have hge : E.w0.heap.size ≤ (ρ x).1 := by
    rcases h.ownGe hx ho with h1 | h1
    · exact h1
    · have := (h.bo _ h1).2; simp only at this; omega
  refine h.swap (h.fr.trans' hf fun k hk hm => ?_) hf.size (fun z hz => isSome_up z hz) fun y b hy => ?_
  · simp at hm; omega
  · by_cases e : y = x
    · subst e
      unfold dead at hy
      rw [up_same] at hy
      injection hy with hy
      exact .inr (.inr ⟨_, _, hy.symm⟩)
    · unfold dead at hy
      rw [up_other _ _ e] at hy
      refine .inl ⟨hy, fun k hl hk => hf.block k (h.lt' hy hl hk) ?_⟩
      simp only [List.mem_singleton]
      rintro rfl
      exact h.ne x y b0 b hx hy ho hl (Ne.symm e) hk
theorem SatM.below' {ρ : Val} {m : Mem} {w w' : World} (h : SatM E ρ m w) (hf : Fr w [] w') : SatM E ρ m w' := h.below hf.toBelow
/-! ### As choices -/
def capC (u : Cho) : Nat := match u.1 with
  | .slice _ _ c => c
  | _ => 0
/-- the capacity, which is at least the length -/
def capN (n : Nat) (u : Cho) : Nat := max (capC u) n
theorem capN_le (n : Nat) (u : Cho) : n ≤ capN n u := Nat.le_max_right _ _
/-- a call that answers with a row of its own, room and all -/
def OwnCap (w w' : World) (e : Ending) (ty : TypeId) (n sz : Nat) (el : Nat → List Value) : Prop := ∃ b c, e = .returned (.slice (some ⟨b, 0, none⟩) n c) ∧ n ≤ c ∧ w.heap.size ≤ b ∧ OwnAt w' b ty n sz el ((c - n) * sz)
def ownF (x : Nat) (ty : TypeId) (n sz : Nat) (el : Nat → List Value) : Fam := ⟨fun u => .v (.c (.slc x 0 sz n (capN n u))), fun u => [(x, .arr ty sz n el ((capN n u - n) * sz))], [x], false⟩
theorem SatM.ownCap {ρ : Val} {m : Mem} {w w' : World} (h : SatM E ρ m w) (hb : Below w.heap.size w w') {x b n sz room : Nat} {ty : TypeId} {el : Nat → List Value} (hx : m x = none) (hxb : x < 1000) (hge : w.heap.size ≤ b) (ho : OwnAt w' b ty n sz el room) :
    SatM E (up ρ x (b, 0)) (up m x (some (.arr ty sz n el room))) w' ∧ ∀ y, (m y).isSome = true → up ρ x (b, 0) y = ρ y := by
  refine (h.below hb).addArr hx hxb (Nat.le_trans h.fr.size hge) ho fun y c hy hl hk => ?_
  have := h.lt' hy hl hk
  omega
theorem StepsC.callOwn {ops : Array Oper} {o : Oper} {c : Call} {f : FuncId} {avs : List AV} {caps : List Cap} {C : St} (x : Nat) (ty : TypeId) (n sz : Nat) (el : Nat → List Value) (hg : o.guard = none) (hop : o.op = .call c) (he : callE C.t c = .mk f avs caps) (hd : dstOk E.N o.dst = true) (hx : C.m x = none) (hxb : Nat.blt x 1000 = true)
    (hcf : ∀ (args : Array Value) (w : World), (callFunc f args).run P w = .ok (.enter f args) w)
    (hc : ∀ m, LeM C.m m → ∀ ρ w, SatM E ρ m w → (∀ v ∈ avs, v.ok ρ m) → Calls P f (avs.map (AV.conc ρ) ++ caps.map (Cap.conc ρ)).toArray w fun e w' => OwnCap w w' e ty n sz el ∧ Below w.heap.size w w') :
    StepsC P E ops o C (ownF x ty n sz el) := by
  intro st hle _ ρ a w hs Kc Q hk
  have hs' := hs.weakT hle.t
  obtain ⟨hr, hok, hok2⟩ := call_run hs' hop he hcf
  rw [if_pos (by simp [Region.wanted, hg])]
  refine .inl ?_
  unfold Oper.wp
  rw [hr]
  refine (hc st.m hle.m ρ w hs.mem hok).mono ?_
  rintro e w' ⟨⟨b, c, rfl, hcn, hge, ho⟩, hb⟩
  have hx' : st.m x = none := (hle.n x (nmM_mem (by simp [ownF]))).trans hx
  obtain ⟨h1, h2⟩ := hs.mem.ownCap hb hx' (by simpa [Nat.blt_eq] using hxb) hge ho
  refine hk (.slice none 0 c, fun _ => False) (up ρ x (b, 0)) _ w' ?_
  have e : upm st.m ((ownF x ty n sz el).ms (.slice none 0 c, fun _ => False)) = up st.m x (some (.arr ty sz n el ((c - n) * sz))) := by
    show upm st.m [(x, .arr ty sz n el ((max c n - n) * sz))] = _
    rw [Nat.max_eq_left hcn]
    exact upm_one _ _ _
  rw [e]
  refine (hs.move h1 (fun z hz => isSome_up z hz) h2).putT (dstOk_lt hd) ⟨?_, ?_⟩
  · show (up st.m x _ x).isSome = true
    rw [up_same]; rfl
  · simp [ownF, capN, capC, AV.conc, AC.conc, up_same, Nat.max_eq_left hcn]
/-- What append finds of its arguments. -/
theorem append_args {ρ : Val} {st : St} {a : Act} {w : World} (hs : Sat E ρ st a w) {s y : Operand} {x q size n c c1 : Nat} {e ty1 : TypeId} {el : Nat → List Value} {room : Nat} {vs : List Value} (hS : evT st.t s = .v (.c (.slc x 0 size n c))) (hx : st.m x = some (.arr e size n el room))
    (hy : evT st.t y = .v (.c (.slc q 0 size 1 c1))) (hq : st.m q = some (.var ty1 (vs.map .k))) :
    a.eval s = .slice (some ⟨(ρ x).1, 0, none⟩) n c ∧ a.eval y = .slice (some ⟨(ρ q).1, 0, none⟩) 1 c1 ∧ OwnAt w (ρ x).1 e n size el room ∧ (ρ q).1 < w.heap.size ∧ ∀ j u, vs[j]? = some u → w.cell? ((⟨(ρ q).1, 0, none⟩ : Addr).add j) = some u := by
  obtain ⟨hρx, hox, hown⟩ := hs.mem.ok x _ hx
  have hvar := hs.mem.ok q _ hq
  have es := hs.eval s
  rw [show st.ev s = _ from hS] at es
  have ey := hs.eval y
  rw [show st.ev y = _ from hy] at ey
  refine ⟨by simpa [AV.conc, AC.conc, hρx] using es.2, by simpa [AV.conc, AC.conc, hvar.1] using ey.2, hown, lt_of_heap hvar.2.2.1, fun j u hj => ?_⟩
  have h3 := hvar.2.2.1
  rw [map_conc_k] at h3
  rw [Addr.add_lit]
  simp [World.cell?, h3, hj]
def conF (x d n sz : Nat) (el : Nat → List Value) : Fam := ⟨fun u => .v (.c (.k u.1)), fun u => [(d, .say (sb u.1) (fun w => RdV w u.1 n sz el)), (x, .ro 0 0 fun _ => [])], [d, x], false⟩
theorem steady_rdv {v : Value} {n sz : Nat} {el : Nat → List Value} : Steady (sb v) (fun w => RdV w v n sz el) := by
  rintro w1 w2 h1 h2 ⟨A, c, rfl, h3, h4⟩
  exact ⟨A, c, rfl, steady_row (cap := c) w1 w2 h1 h2 h3, h4⟩
theorem StepsC.appendCon {ops : Array Oper} {o : Oper} {s y : Operand} {t e size bytes d x n c q c1 room : Nat} {z : Value} {C : St} {el : Nat → List Value} {ty1 : TypeId} (vs : List Value) (hp : ApT P t e size bytes z) (hg : o.guard = none) (hop : o.op = .call { callee := .builtin .append, args := #[s, y], argTypes := #[t, t] })
    (hd : o.dst = some d) (hdN : Nat.blt d E.N = true) (hxb : Nat.blt x 1000 = true) (hxd : Nat.beq x d = false) (hs : evT C.t s = .v (.c (.slc x 0 size n c))) (hx : C.m x = some (.arr e size n el room)) (hroom : (c - n) * size ≤ room) (hfree : C.m d = none)
    (hy : evT C.t y = .v (.c (.slc q 0 size 1 c1))) (hq : C.m q = some (.var ty1 (vs.map .k))) (hv : vs.length = size) (h1 : ∀ u ∈ vs, u.oneCell' = true) (hlen : ∀ k, k < n → (el k).length = size) (b1 : n + 1 ≤ maxLen) (b2 : (n + 1) * bytes ≤ 140737488355328) :
    StepsC P E ops o C (conF x d (n + 1) size (elN el n vs)) := by
  intro st hle _ ρ a w hsat Kc Q hk
  have hs' := hsat.weakT hle.t
  have hxd : x ≠ d := nx hxd
  have hx' : st.m x = some (.arr e size n el room) := (hle.n x (nmM_mem (by simp [conF]))).trans hx
  have hd' : st.m d = none := (hle.n d (nmM_mem (by simp [conF]))).trans hfree
  have hq' : st.m q = some (.var ty1 (vs.map .k)) := by
    rcases hle.m q with h | h
    · rw [hq] at h; cases h
    · rw [h, hq]
  obtain ⟨es, ey, hown, hql, hnews⟩ := append_args hs' (st := ⟨C.t, st.m⟩) hs hx' hy hq'
  obtain ⟨g, c', w', h2, hrun, hf, hgg, hlt, ho⟩ := append_core (ty := o.type) (c1 := c1) hp hown hroom hnews hv h1 hlen b1 b2
  have hex : (execOp a.eval o).run P w = .ok (.value (.slice (some ⟨g, 0, none⟩) (n + 1) c')) w' := by
    simp [execOp, hop, resolve, invoke, builtin, es, ey, hrun, Result.andThen]
  rw [if_pos (by simp [Region.wanted, hg])]
  refine .inl ?_
  unfold Oper.wp
  rw [hex]
  refine hk (.slice (some ⟨g, 0, none⟩) (n + 1) c', fun _ => False) ρ _ w' ?_
  have hm := hsat.mem.giveUp hx' trivial (by simpa [Nat.blt_eq] using hxb) hf
  have e1 : upm st.m ((conF x d (n + 1) size (elN el n vs)).ms (.slice (some ⟨g, 0, none⟩) (n + 1) c', fun _ => False)) = up (dead x st.m) d (some (.say (sb (.slice (some ⟨g, 0, none⟩) (n + 1) c')) (fun w => RdV w (.slice (some ⟨g, 0, none⟩) (n + 1) c') (n + 1) size (elN el n vs)))) := by
    funext k
    simp only [conF, upm, mget, dead, up]
    cases h1 : Nat.beq k d <;> cases h2 : Nat.beq k x <;> rfl
  rw [e1]
  have hd2 : dead x st.m d = none := by unfold dead; rw [up_other _ _ (Ne.symm hxd)]; exact hd'
  have hm2 := hm.swap (m' := up (dead x st.m) d (some (.say (sb (.slice (some ⟨g, 0, none⟩) (n + 1) c')) (fun w => RdV w (.slice (some ⟨g, 0, none⟩) (n + 1) c') (n + 1) size (elN el n vs))))) hm.fr (Nat.le_refl _) (fun z hz => isSome_up z hz) fun k b hkb => by
    by_cases ek : k = d
    · subst ek
      rw [up_same] at hkb
      injection hkb with hkb
      subst hkb
      refine .inr (.inl ⟨_, _, rfl, ⟨_, _, rfl, ?_, fun _ => h2⟩, ?_, steady_rdv, fun y2 c2 hy2 hc2 ho2 => ?_⟩)
      · intro _
        exact ⟨g, 0, rfl, hlt, ho.rd.2⟩
      · rintro k2 ⟨_, a2, e2, rfl⟩; cases e2; exact hlt
      · rw [up_other _ _ hy2] at hc2
        rintro ⟨_, a2, e2, e3⟩
        cases e2
        have hyx : y2 ≠ x := fun e => by subst e; unfold dead at hc2; rw [up_same] at hc2; cases hc2; exact ho2
        have hc3 : st.m y2 = some c2 := by unfold dead at hc2; rwa [up_other _ _ hyx] at hc2
        rcases hgg with hgg | hgg
        · have := hsat.mem.ne x y2 _ c2 hx' hc3 trivial (Blk.own_live ho2) (Ne.symm hyx)
          rw [Blk.own_hits ho2] at this
          exact this (by rw [← hgg]; exact e3)
        · have := hsat.mem.lt hc3 ho2
          simp only at e3
          omega
    · rw [up_other _ _ ek] at hkb
      exact .inl ⟨hkb, fun _ _ _ => rfl⟩
  exact (hsat.move hm2 (fun z hz => isSome_up z (isSome_up z hz)) fun _ _ => rfl).putT (by intro n' hn'; rw [hd] at hn'; cases hn'; simpa [Nat.blt_eq] using hdN) ⟨trivial, rfl⟩
/-- Append onto a growing row of ours: the answer has a name of its own, the row is given up. -/
def accF (x d n sz : Nat) (e : TypeId) (el : Nat → List Value) : Fam := ⟨fun u => .v (.c (.slc d 0 sz n (capN n u))), fun u => [(d, .arr e sz n el ((capN n u - n) * sz)), (x, .ro 0 0 fun _ => [])], [d, x], false⟩
theorem StepsC.appendAcc {ops : Array Oper} {o : Oper} {s y : Operand} {t e size bytes d x n c q c1 : Nat} {z : Value} {C : St} {el : Nat → List Value} {ty1 : TypeId} (vs : List Value) (hp : ApT P t e size bytes z) (hg : o.guard = none) (hop : o.op = .call { callee := .builtin .append, args := #[s, y], argTypes := #[t, t] })
    (hd : o.dst = some d) (hdN : Nat.blt d E.N = true) (hdb : Nat.blt d 1000 = true) (hxb : Nat.blt x 1000 = true) (hxd : Nat.beq x d = false) (hs : evT C.t s = .v (.c (accV x size n c))) (hx : C.m x = some (accB e size n c el)) (hfree : C.m d = none)
    (hy : evT C.t y = .v (.c (.slc q 0 size 1 c1))) (hq : C.m q = some (.var ty1 (vs.map .k))) (hv : vs.length = size) (h1 : ∀ u ∈ vs, u.oneCell' = true) (hlen : ∀ k, k < n → (el k).length = size) (b1 : n + 1 ≤ maxLen) (b2 : (n + 1) * bytes ≤ 140737488355328) :
    StepsC P E ops o C (accF x d (n + 1) size e (elN el n vs)) := by
  intro st hle _ ρ a w hsat Kc Q hk
  have hs' := hsat.weakT hle.t
  have hxd : x ≠ d := nx hxd
  have hxb : x < 1000 := by simpa [Nat.blt_eq] using hxb
  have hdb : d < 1000 := by simpa [Nat.blt_eq] using hdb
  have hx' : st.m x = some (accB e size n c el) := (hle.n x (nmM_mem (by simp [accF]))).trans hx
  have hd' : st.m d = none := (hle.n d (nmM_mem (by simp [accF]))).trans hfree
  have hq' : st.m q = some (.var ty1 (vs.map .k)) := by
    rcases hle.m q with h | h
    · rw [hq] at h; cases h
    · rw [h, hq]
  have hd2 : dead x st.m d = none := by unfold dead; rw [up_other _ _ (Ne.symm hxd)]; exact hd'
  have fin : ∀ (g c' : Nat) (w' : World), n + 1 ≤ c' → (execOp a.eval o).run P w = .ok (.value (.slice (some ⟨g, 0, none⟩) (n + 1) c')) w' → SatM E ρ (dead x st.m) w' → (∀ y b, dead x st.m y = some b → b.live → ¬ b.hits (ρ y) g) → E.w0.heap.size ≤ g → OwnAt w' g e (n + 1) size (elN el n vs) ((c' - (n + 1)) * size) →
      if Region.wanted o (yielded ops a.tmps) = true then o.wp P a w Kc Q ∨ YieldW P o a w Kc else Kc (a.put o.dst undef) w := by
    intro g c' w' h2 hex hm hn hge ho
    rw [if_pos (by simp [Region.wanted, hg])]
    refine .inl ?_
    unfold Oper.wp
    rw [hex]
    obtain ⟨hm2, hρ⟩ := hm.addArr hd2 hdb hge ho hn
    refine hk (.slice none 0 c', fun _ => False) (up ρ d (g, 0)) _ w' ?_
    have e1 : upm st.m ((accF x d (n + 1) size e (elN el n vs)).ms (.slice none 0 c', fun _ => False)) = up (dead x st.m) d (some (.arr e size (n + 1) (elN el n vs) ((c' - (n + 1)) * size))) := by
      funext k
      simp only [accF, upm, mget, dead, up, capN, capC, Nat.max_eq_left h2]
      cases h1 : Nat.beq k d <;> cases h2 : Nat.beq k x <;> rfl
    rw [e1]
    refine (hsat.move hm2 (fun z hz => isSome_up z (isSome_up z hz)) fun y hy => hρ y (isSome_up y hy)).putT (by intro n' hn'; rw [hd] at hn'; cases hn'; simpa [Nat.blt_eq] using hdN) ⟨?_, ?_⟩
    · show (up (dead x st.m) d _ d).isSome = true
      rw [up_same]; rfl
    · simp [accF, capN, capC, AV.conc, AC.conc, up_same, Nat.max_eq_left h2]
  cases n with
  | succ n =>
    obtain ⟨es, ey, hown, hql, hnews⟩ := append_args hs' (st := ⟨C.t, st.m⟩) hs hx' hy hq'
    obtain ⟨g, c', w', h2, hrun, hf, hgg, hlt, ho⟩ := append_core (ty := o.type) (c1 := c1) hp hown (Nat.le_refl _) hnews hv h1 hlen b1 b2
    have hge0 : E.w0.heap.size ≤ (ρ x).1 := by
      rcases hsat.mem.ownGe hx' trivial with h1 | h1
      · exact h1
      · have := (hsat.mem.bo _ h1).2; simp only at this; omega
    refine fin g c' w' h2 (by simp [execOp, hop, resolve, invoke, builtin, es, ey, hrun, Result.andThen]) (hsat.mem.giveUp hx' trivial hxb hf) (fun y2 b hyb hl hk2 => ?_) ?_ ho
    · have hyx : y2 ≠ x := fun e => by subst e; unfold dead at hyb; rw [up_same] at hyb; cases hyb; exact Nat.lt_irrefl 0 hl
      have hc3 : st.m y2 = some b := by unfold dead at hyb; rwa [up_other _ _ hyx] at hyb
      rcases hgg with hgg | hgg
      · exact hsat.mem.ne x y2 _ b hx' hc3 trivial hl (Ne.symm hyx) (by rw [← hgg]; exact hk2)
      · have := hsat.mem.lt' hc3 hl hk2; omega
    · rcases hgg with hgg | hgg
      · rw [hgg]; exact hge0
      · exact Nat.le_trans hsat.mem.fr.size hgg
  | zero =>
    have hvar := hsat.mem.ok q _ hq'
    have es : a.eval s = .slice none 0 0 := by have := hs'.eval s; rw [show St.ev ⟨C.t, st.m⟩ s = _ from hs] at this; exact this.2
    have ey : a.eval y = .slice (some ⟨(ρ q).1, 0, none⟩) 1 c1 := by
      have := hs'.eval y; rw [show St.ev ⟨C.t, st.m⟩ y = _ from hy] at this
      simpa [AV.conc, AC.conc, hvar.1] using this.2
    obtain ⟨g, c', w', h2, hrun, hf, hgg, hlt, ho⟩ := append_core0 (ty := o.type) (c1 := c1) (el := el) hp (lt_of_heap hvar.2.2.1) (fun j u hj => by
      have h3 := hvar.2.2.1
      rw [map_conc_k] at h3
      rw [Addr.add_lit]
      simp [World.cell?, h3, hj]) hv h1 (by omega) (by omega)
    have hm : SatM E ρ (dead x st.m) w' := by
      refine (hsat.mem.below' hf).swap (hsat.mem.below' hf).fr (Nat.le_refl _) (fun z hz => isSome_up z hz) fun k b hkb => ?_
      by_cases ek : k = x
      · subst ek
        unfold dead at hkb
        rw [up_same] at hkb
        injection hkb with hkb
        exact .inr (.inr ⟨_, _, hkb.symm⟩)
      · unfold dead at hkb
        rw [up_other _ _ ek] at hkb
        exact .inl ⟨hkb, fun _ _ _ => rfl⟩
    refine fin g c' w' h2 (by simp [execOp, hop, resolve, invoke, builtin, es, ey, hrun, Result.andThen]) hm (fun y2 b hyb hl hk2 => ?_) (Nat.le_trans hsat.mem.fr.size hgg) ho
    have hyx : y2 ≠ x := fun e => by subst e; unfold dead at hyb; rw [up_same] at hyb; cases hyb; exact Nat.lt_irrefl 0 hl
    have hc3 : st.m y2 = some b := by unfold dead at hyb; rwa [up_other _ _ hyx] at hyb
    have := hsat.mem.lt' hc3 hl hk2
    omega
end
end Go.Sx
/- The symbolic executor, part AS: rows of their own, room and all, as answers; appending onto an empty constant in draws. Generic over P. -/
set_option linter.unusedVariables false
set_option linter.unusedSimpArgs false
namespace Go.Sx
open Go.RowKit
section
variable {P : Program} {E : Env} {K : Exit → St → Prop} {T : Tab}
def endOwnC (T : Tab) (fn : Func) (ty : TypeId) (n sz : Nat) (el : Nat → List Value) : Exit → St → Prop := fun e st => (e = .ret ∨ e = .normal) ∧ ∃ r, fn.results.toList = [r] ∧ ∃ x c el2 room, resOne T st r = .v (.c (.slc x 0 sz n c)) ∧ n ≤ c ∧ (c - n) * sz ≤ room ∧ st.m x = some (.arr ty sz n el2 room) ∧ ∀ i, i < n → el2 i = el i
theorem enterOwnC (hT : Tab.fine P T) {f : FuncId} {fn : Func} {c : Code} {args : Array Value} {w : World} (ty : TypeId) (n sz : Nat) (el : Nat → List Value) (hf : P.funcs[f]? = some fn) (hb : fn.body = some c) (N : Nat) (hN : fn.ntmps = N) (avs : List AV) (l : List Inp)
    (hargs : args = (avs.map (AV.conc (inpsV l))).toArray) (hl : Nat.ble avs.length N = true) (hr : allRd w l) (ha : allInps l avs)
    (h : G P ⟨w, [], N, none, []⟩ (endOwnC T fn ty n sz el) c ⟨argsT avs, lkM (inpsM l)⟩) : Calls P f args w fun e w' => OwnCap w w' e ty n sz el ∧ Below w.heap.size w w' := by
  subst hN
  refine enter rfl (E := ⟨w, [], fn.ntmps, none, []⟩) hf hb (inpsV l) (Sat.init hr ha hargs (Nat.le_of_ble_eq_true hl)) (h.mono fun e st hk => ⟨hk.1, fun ρ a w' hs => ?_⟩)
  obtain ⟨r, h1, x, cp, el2, room, h2, h20, h3, h4, h5⟩ := hk.2
  obtain ⟨h6, h7⟩ := resOne_run hT hs h2
  obtain ⟨k1, k2, k3⟩ := hs.mem.ok x _ h4
  have k2 : w.heap.size ≤ (ρ x).1 := by
    rcases k2 with h | h
    · exact h
    · cases h
  obtain ⟨cs, q1, q2, q3⟩ := k3
  refine ⟨_, results_one h1 h6, ⟨(ρ x).1, cp, ?_, h20, k2, cs, q1, by omega, fun i hi => by rw [← h5 i hi]; exact q3 i hi⟩, hs.mem.fr.toBelow⟩
  simp [AV.conc, AC.conc, k1]
theorem endOwnC.ret {fn : Func} {ty n sz c x room : Nat} {el el2 : Nat → List Value} {st : St} {r : ResultVar} (h : fn.results.toList = [r]) (h1 : resOne T st r = .v (.c (.slc x 0 sz n c))) (h20 : n ≤ c) (h2 : (c - n) * sz ≤ room) (h3 : st.m x = some (.arr ty sz n el2 room)) (h4 : ∀ i, i < n → el2 i = el i) : endOwnC T fn ty n sz el .ret st := ⟨.inl rfl, r, h, x, c, el2, room, h1, h20, h2, h3, h4⟩
theorem GO.callCap {ops : Array Oper} {rest : List Oper} {o : Oper} {c : Call} {f : FuncId} {avs : List AV} {caps : List Cap} {t : Nat → TV} {m : Mem} (x : Nat) (ty : TypeId) (n sz : Nat) (el : Nat → List Value) (hg : o.guard = none) (hop : o.op = .call c) (he : callE t c = .mk f avs caps) (hd : dstOk E.N o.dst = true) (hx : m x = none) (hxb : Nat.blt x 1000 = true)
    (hcf : ∀ (args : Array Value) (w : World), (callFunc f args).run P w = .ok (.enter f args) w)
    (hc : ∀ ρ w, SatM E ρ m w → (∀ v ∈ avs, v.ok ρ m) → Calls P f (avs.map (AV.conc ρ) ++ caps.map (Cap.conc ρ)).toArray w fun e w' => OwnCap w w' e ty n sz el ∧ Below w.heap.size w w')
    (k : ∀ cp, n ≤ cp → GO P E ops K rest ⟨Sx.putT t o.dst (.v (.c (.slc x 0 sz n cp))), up m x (some (.arr ty sz n el ((cp - n) * sz)))⟩) : GO P E ops K (o :: rest) ⟨t, m⟩ := by
  refine GO.call hg hop he hcf (fun ρ a w hs hok _ => (hc ρ w hs.mem hok).mono ?_)
  rintro e w' ⟨⟨b, cp, rfl, hcp, hge, ho⟩, hb⟩
  obtain ⟨h1, h2⟩ := hs.mem.ownCap hb hx (by simpa [Nat.blt_eq] using hxb) hge ho
  refine ⟨_, up ρ x (b, 0), _, rfl, (hs.move h1 (fun z hz => isSome_up z hz) h2).putT (dstOk_lt hd) (tv := .v (.c (.slc x 0 sz n cp))) ⟨?_, ?_⟩, k cp hcp⟩
  · show (up m x _ x).isSome = true
    rw [up_same]; rfl
  · simp [AV.conc, AC.conc, up_same]
/-- Append onto an empty constant. -/
def conF0 (d sz : Nat) (el : Nat → List Value) : Fam := ⟨fun u => .v (.c (.k u.1)), fun u => [(d, .say (sb u.1) (fun w => RdV w u.1 1 sz el))], [d], false⟩
theorem StepsC.appendCon0 {A0 : Option Addr} {ops : Array Oper} {o : Oper} {s y : Operand} {t e size bytes d q c1 : Nat} {z : Value} {C : St} {ty1 : TypeId} (el : Nat → List Value) (vs : List Value) (hp : ApT P t e size bytes z) (hg : o.guard = none) (hop : o.op = .call { callee := .builtin .append, args := #[s, y], argTypes := #[t, t] })
    (hd : o.dst = some d) (hdN : Nat.blt d E.N = true) (hs : evT C.t s = .v (.c (.k (.slice A0 0 0)))) (hfree : C.m d = none)
    (hy : evT C.t y = .v (.c (.slc q 0 size 1 c1))) (hq : C.m q = some (.var ty1 (vs.map .k))) (hv : vs.length = size) (h1 : ∀ u ∈ vs, u.oneCell' = true) (b2 : 1 * bytes ≤ 140737488355328) :
    StepsC P E ops o C (conF0 d size (elN el 0 vs)) := by
  intro st hle _ ρ a w hsat Kc Q hk
  have hs' := hsat.weakT hle.t
  have hd' : st.m d = none := (hle.n d (nmM_mem (by simp [conF0]))).trans hfree
  have hq' : st.m q = some (.var ty1 (vs.map .k)) := by
    rcases hle.m q with h | h
    · rw [hq] at h; cases h
    · rw [h, hq]
  have hvar := hsat.mem.ok q _ hq'
  have es : a.eval s = .slice A0 0 0 := by have := hs'.eval s; rw [show St.ev ⟨C.t, st.m⟩ s = _ from hs] at this; exact this.2
  have ey := hs'.eval y
  rw [show St.ev ⟨C.t, st.m⟩ y = _ from hy] at ey
  have ey : a.eval y = .slice (some ⟨(ρ q).1, 0, none⟩) 1 c1 := by simpa [AV.conc, AC.conc, hvar.1] using ey.2
  have hone : ∀ i, i < 1 → elN el 0 vs i = vs := fun i hi => by
    have : i = 0 := by omega
    subst this
    exact elN_eq
  have hr0 := hsat.mem.rdVar (sz := size) hq' 0 1 (by omega)
  rw [Nat.zero_mul, Nat.add_zero, hvar.1] at hr0
  have hr' : RdRow w (some ⟨(ρ q).1, 0, none⟩) 1 size (elN el 0 vs) := hr0.congr (fun i hi => by
    have : i = 0 := by omega
    subst this
    rw [hone 0 hi]; simp [← hv])
  rcases append_new (ty := o.type) hp (A := A0) (c := c1) hr' (fun i hi u hu => h1 u (by rw [hone i hi] at hu; exact hu)) (by decide) b2 with ⟨h0, _⟩ | ⟨_, v', w', hrun, r1, r2⟩
  · cases h0
  · have hex : (execOp a.eval o).run P w = .ok (.value v') w' := by
      simp [execOp, hop, resolve, invoke, builtin, es, ey, hrun, Result.andThen]
    rw [if_pos (by simp [Region.wanted, hg])]
    refine .inl ?_
    unfold Oper.wp
    rw [hex]
    rcases r1.2 with ⟨_, h0⟩ | ⟨g, c', cur, rfl, hbg, hgg, hnc, hcm, hcs, htake⟩
    · omega
    refine hk (.slice (some ⟨g, 0, none⟩) 1 c', fun _ => False) ρ _ w' ?_
    have hf : Fr w [] w' := ⟨r2.os, r2.tape, r2.output, r2.size, fun k hk _ => r2.block k hk (by simp)⟩
    have e1 : upm st.m ((conF0 d size (elN el 0 vs)).ms (.slice (some ⟨g, 0, none⟩) 1 c', fun _ => False)) = up st.m d (some (.say (sb (.slice (some ⟨g, 0, none⟩) 1 c')) (fun w => RdV w (.slice (some ⟨g, 0, none⟩) 1 c') 1 size (elN el 0 vs)))) := upm_one _ _ _
    rw [e1]
    have hfl : flatE (elN el 0 vs) 0 1 = vs := by simp [flatE, hone 0 (by omega)]
    rw [hfl] at htake
    have hm := hsat.mem.told hf.toBelow (x := d) (S := sb (.slice (some ⟨g, 0, none⟩) 1 c')) (R := fun w => RdV w (.slice (some ⟨g, 0, none⟩) 1 c') 1 size (elN el 0 vs)) hd'
      ⟨_, _, rfl, fun _ => ⟨g, 0, rfl, lt_of_heap hgg, fun i hi => ⟨by rw [hone i hi]; exact hv, fun j hj => by
        have e0 : i = 0 := by omega
        subst e0
        rw [hone 0 hi, cell_of_heap hgg, ← htake, List.getElem?_take, if_pos (by omega)]
        simp⟩⟩, fun _ => hnc⟩ (by rintro k2 ⟨_, a2, e2, rfl⟩; cases e2; exact ⟨hbg, lt_of_heap hgg⟩) steady_rdv
    exact (hsat.move hm (fun z hz => isSome_up z hz) fun _ _ => rfl).putT (by intro n' hn'; rw [hd] at hn'; cases hn'; simpa [Nat.blt_eq] using hdN) ⟨trivial, rfl⟩
end
end Go.Sx
/- The symbolic executor, part AT: a row of ours gets another name, wherever it is spoken of. Generic over P. -/
set_option linter.unusedVariables false
set_option linter.unusedSimpArgs false
namespace Go.Sx
open Go.RowKit
def rnAC (x y : Nat) (a : AC) : AC := match a with
  | .slc z i sz n c => .slc (bif Nat.beq z x then y else z) i sz n c
  | a => a
def rnAV (x y : Nat) (a : AV) : AV := match a with
  | .c a => .c (rnAC x y a)
  | .agg l => .agg (l.map (rnAC x y))
def rnTV (x y : Nat) (t : TV) : TV := match t with
  | .v a => .v (rnAV x y a)
  | .grd j w b a => .grd j w b (rnAV x y a)
  | .tup l => .tup (l.map (rnAV x y))
  | t => t
def rnB (x y : Nat) (b : Option Blk) : Option Blk := match b with
  | some (.var ty cells) => some (.var ty (cells.map (rnAC x y)))
  | b => b
def rnOK : Blk → Prop
  | .arr .. => True
  | .ro _ n _ => n = 0
  | _ => False
section
variable {P : Program} {E : Env} {K : Exit → St → Prop} {T : Tab}
theorem rnAC_ok {x y : Nat} {ρ ρ' : Val} {m m' : Mem} (hy : ρ' y = ρ x) (hs : ∀ z, (m z).isSome = true → (m' z).isSome = true) (hm : (m' y).isSome = true) (hρ : ∀ z, (m z).isSome = true → ρ' z = ρ z) {a : AC} (ho : a.ok ρ m) : (rnAC x y a).ok ρ' m' ∧ (rnAC x y a).conc ρ' = a.conc ρ := by
  cases a with
  | slc z i sz n c =>
    simp only [rnAC]
    cases hb : Nat.beq z x with
    | true =>
      have := Nat.eq_of_beq_eq_true hb
      subst this
      exact ⟨hm, by simp [AC.conc, hy]⟩
    | false => exact ⟨hs z ho, by simp [AC.conc, hρ z ho]⟩
  | _ => exact ⟨AC.ok_mono hs hρ ho, AC.conc_mono hρ ho⟩
theorem rnAV_ok {x y : Nat} {ρ ρ' : Val} {m m' : Mem} (hy : ρ' y = ρ x) (hs : ∀ z, (m z).isSome = true → (m' z).isSome = true) (hm : (m' y).isSome = true) (hρ : ∀ z, (m z).isSome = true → ρ' z = ρ z) {a : AV} (ho : a.ok ρ m) : (rnAV x y a).ok ρ' m' ∧ (rnAV x y a).conc ρ' = a.conc ρ := by
  cases a with
  | c a => exact rnAC_ok hy hs hm hρ ho
  | agg l =>
    refine ⟨fun b hb => ?_, ?_⟩
    · obtain ⟨a, ha, rfl⟩ := List.mem_map.1 hb
      exact (rnAC_ok hy hs hm hρ (ho a ha)).1
    · have : (l.map (rnAC x y)).map (AC.conc ρ') = l.map (AC.conc ρ) := by
        rw [List.map_map]
        exact List.map_congr_left fun a ha => (rnAC_ok hy hs hm hρ (ho a ha)).2
      simp [rnAV, AV.conc, this]
theorem rnTV_rep {x y : Nat} {ρ ρ' : Val} {m m' : Mem} (hy : ρ' y = ρ x) (hs : ∀ z, (m z).isSome = true → (m' z).isSome = true) (hm : (m' y).isSome = true) (hρ : ∀ z, (m z).isSome = true → ρ' z = ρ z) {t : TV} {v : Value} (h : t.rep ρ m v) : (rnTV x y t).rep ρ' m' v := by
  cases t with
  | unk => trivial
  | v a => exact ⟨(rnAV_ok hy hs hm hρ h.1).1, h.2.trans (rnAV_ok hy hs hm hρ h.1).2.symm⟩
  | grd j w b a => exact ⟨fun hb => ⟨(rnAV_ok hy hs hm hρ (h.1 hb).1).1, (h.1 hb).2.trans (rnAV_ok hy hs hm hρ (h.1 hb).1).2.symm⟩, h.2⟩
  | tup l =>
    refine ⟨fun b hb => ?_, ?_⟩
    · obtain ⟨a, ha, rfl⟩ := List.mem_map.1 hb
      exact (rnAV_ok hy hs hm hρ (h.1 a ha)).1
    · have : (l.map (rnAV x y)).map (AV.conc ρ') = l.map (AV.conc ρ) := by
        rw [List.map_map]
        exact List.map_congr_left fun a ha => (rnAV_ok hy hs hm hρ (h.1 a ha)).2
      rw [h.2, this]
  | tab z n w =>
    exact TV.rep_mono hs hρ h
def rnS (x y : Nat) (b : Blk) (st : St) : St := ⟨fun j => rnTV x y (st.t j), up (up (fun z => rnB x y (st.m z)) x (some (.ro 0 0 fun _ => []))) y (some b)⟩
theorem Sat.rn {ρ : Val} {st : St} {a : Act} {w : World} (h : Sat E ρ st a w) {x y : Nat} {b : Blk} (hx : st.m x = some b) (hb : rnOK b) (hxb : x < 1000) (hy : st.m y = none) (hyb : y < 1000) : Sat E (up ρ y (ρ x)) (rnS x y b st) a w := by
  obtain ⟨t, m⟩ := st
  have hxy : x ≠ y := fun e => by subst e; rw [hy] at hx; cases hx
  have hρ : ∀ z, (m z).isSome = true → up ρ y (ρ x) z = ρ z := fun z hz => up_other _ _ (fun e => by subst e; rw [show m z = none from hy] at hz; cases hz)
  have hsr : ∀ z, (m z).isSome = true → (rnB x y (m z)).isSome = true := fun z hz => by
    cases hm : m z with
    | none => rw [hm] at hz; cases hz
    | some b => cases b <;> rfl
  have hs : ∀ z, (m z).isSome = true → ((rnS x y b ⟨t, m⟩).m z).isSome = true := fun z hz => isSome_up z (isSome_up z (hsr z hz))
  have hmy : ((rnS x y b ⟨t, m⟩).m y).isSome = true := by simp [rnS, up_same]
  have e1 : up ρ y (ρ x) y = ρ x := up_same _ _ _
  have cases' : ∀ z c, (rnS x y b ⟨t, m⟩).m z = some c → (z = y ∧ c = b) ∨ (z = x ∧ c = .ro 0 0 fun _ => []) ∨ (z ≠ x ∧ z ≠ y ∧ ∃ c0, m z = some c0 ∧ rnB x y (some c0) = some c) := by
    intro z c hz
    simp only [rnS] at hz
    by_cases h1 : z = y
    · subst h1; rw [up_same] at hz; injection hz with hz; exact .inl ⟨rfl, hz.symm⟩
    · rw [up_other _ _ h1] at hz
      by_cases h2 : z = x
      · subst h2; rw [up_same] at hz; injection hz with hz; exact .inr (.inl ⟨rfl, hz.symm⟩)
      · rw [up_other _ _ h2] at hz
        cases hm : m z with
        | none => rw [hm] at hz; cases hz
        | some c0 => rw [hm] at hz; exact .inr (.inr ⟨h2, h1, c0, rfl, hz⟩)
  have same : ∀ c0 c, rnB x y (some c0) = some c → (c.own ↔ c0.own) ∧ (c.live ↔ c0.live) ∧ ∀ p k, c.hits p k ↔ c0.hits p k := by
    intro c0 c hc
    cases c0 <;> simp only [rnB] at hc <;> injection hc with hc <;> subst hc <;> exact ⟨Iff.rfl, Iff.rfl, fun _ _ => Iff.rfl⟩
  refine ⟨⟨h.mem.fr, fun p hp => ?_, fun z c hz => ?_, fun z1 z2 c d hz1 hz2 hc hd hne => ?_⟩, h.df, h.sz, fun j => rnTV_rep e1 hs hmy hρ (h.tm j)⟩
  · have := h.mem.bo p hp
    rw [up_other _ _ (by omega)]; exact this
  · rcases cases' z c hz with ⟨rfl, rfl⟩ | ⟨rfl, rfl⟩ | ⟨h1, h2, c0, h3, h4⟩
    · have hk := h.mem.ok x _ hx
      cases c with
      | arr ty sz n el room =>
        obtain ⟨k1, k2, a, ha, hs, he⟩ := hk
        refine ⟨by rw [e1]; exact k1, .inl ?_, a, by rw [e1]; exact ha, hs, he⟩
        rw [e1]
        rcases k2 with k2 | k2
        · exact k2
        · have := (h.mem.bo _ k2).2; simp only at this; omega
      | ro sz n el => intro h0; rw [show n = 0 from hb] at h0; exact absurd h0 (Nat.lt_irrefl 0)
      | _ => exact hb.elim
    · exact fun h0 => absurd h0 (Nat.lt_irrefl 0)
    · have hk := h.mem.ok z _ h3
      have ez : up ρ y (ρ x) z = ρ z := up_other _ _ h2
      cases c0 with
      | var ty cells =>
        simp only [rnB] at h4
        injection h4 with h4
        subst h4
        have hcm : (cells.map (rnAC x y)).map (AC.conc (up ρ y (ρ x))) = cells.map (AC.conc ρ) := by
          rw [List.map_map]
          exact List.map_congr_left fun a ha => (rnAC_ok e1 hs hmy hρ (hk.2.2.2 a ha)).2
        refine ⟨by rw [ez]; exact hk.1, by rw [ez]; exact hk.2.1, by rw [ez, hcm]; exact hk.2.2.1, fun a ha => ?_⟩
        obtain ⟨a0, ha0, rfl⟩ := List.mem_map.1 ha
        exact (rnAC_ok e1 hs hmy hρ (hk.2.2.2 a0 ha0)).1
      | arr ty sz n el room =>
        simp only [rnB] at h4; injection h4 with h4; subst h4
        obtain ⟨k1, k2, a, ha, hs, he⟩ := hk
        exact ⟨by rw [ez]; exact k1, by rw [ez]; exact k2, a, by rw [ez]; exact ha, hs, he⟩
      | obj Q =>
        simp only [rnB] at h4; injection h4 with h4; subst h4
        obtain ⟨k1, k2, a, ha, hs⟩ := hk
        exact ⟨by rw [ez]; exact k1, by rw [ez]; exact k2, a, by rw [ez]; exact ha, hs⟩
      | ro sz n el =>
        simp only [rnB] at h4; injection h4 with h4; subst h4
        intro hn; rw [ez]; exact hk hn
      | say S R =>
        simp only [rnB] at h4; injection h4 with h4; subst h4
        exact hk
  · rcases cases' z1 c hz1 with ⟨rfl, rfl⟩ | ⟨rfl, rfl⟩ | ⟨h1, h2, c0, h3, h4⟩
    · rcases cases' z2 d hz2 with ⟨rfl, rfl⟩ | ⟨rfl, rfl⟩ | ⟨k1, k2, d0, k3, k4⟩
      · exact absurd rfl hne
      · exact absurd hd (Nat.lt_irrefl 0)
      · rw [(same _ _ k4).2.2, e1, up_other _ _ k2]
        exact h.mem.ne x z2 c d0 hx k3 hc ((same _ _ k4).2.1.1 hd) (Ne.symm k1)
    · exact hc.elim
    · have hc0 := (same _ _ h4).1.1 hc
      rcases cases' z2 d hz2 with ⟨rfl, rfl⟩ | ⟨rfl, rfl⟩ | ⟨k1, k2, d0, k3, k4⟩
      · have hh := h.mem.ne z1 x c0 d h3 hx hc0 hd h1
        rw [up_other _ _ h2, e1]
        exact hh
      · exact absurd hd (Nat.lt_irrefl 0)
      · rw [(same _ _ k4).2.2, up_other _ _ h2, up_other _ _ k2]
        exact h.mem.ne z1 z2 c0 d0 h3 k3 hc0 ((same _ _ k4).2.1.1 hd) hne
theorem G.rn {c : Code} {st : St} (x y : Nat) {b : Blk} (hx : st.m x = some b) (hb : rnOK b) (hxb : Nat.blt x 1000 = true) (hy : st.m y = none) (hyb : Nat.blt y 1000 = true) (k : G P E K c (rnS x y b st)) : G P E K c st :=
  G.sem fun ρ a w hs => ⟨_, _, hs.rn hx hb (by simpa [Nat.blt_eq] using hxb) hy (by simpa [Nat.blt_eq] using hyb), k⟩
/-- All but the first of a slice. -/
def tailA (A : Option Addr) (cap sz : Nat) : Option Addr := if cap = 1 then A else A.map fun x => x.add (1 * sz)
theorem RdRow.tail {w : World} {A : Option Addr} {n cap sz : Nat} {el : Nat → List Value} (h : RdRow w A n sz el) (hc : n ≤ cap) : RdRow w (tailA A cap sz) (n - 1) sz (fun i => el (i + 1)) := by
  intro h0
  obtain ⟨b, o, rfl, h1, h2⟩ := h (by omega)
  refine ⟨b, o + 1 * sz, ?_, h1, fun i hi => ⟨(h2 (i + 1) (by omega)).1, fun j hj => ?_⟩⟩
  · rw [tailA, if_neg (by omega), Option.map_some, addr_add]
  · rw [← (h2 (i + 1) (by omega)).2 j hj]
    congr 2
    have : (i + 1) * sz = i * sz + 1 * sz := Nat.add_mul _ _ _
    omega
theorem GO.tail1 (hT : Tab.fine P T) {ops : Array Oper} {rest : List Oper} {o : Oper} {t e x n cap : Nat} {A : Option Addr} {y : Operand} {dd de : TyD} {t0 : Nat → TV} {m : Mem} (hg : o.guard = none) (hop : o.op = .slice t y (some (.const (.int .i64 1))) none none) (hd : dstOk E.N o.dst = true) (ht : T t = some dd) (hk : dd.kind = .slice e) (he : T e = some de)
    (hy : evT t0 y = .v (.c (.inp x A n cap))) (hn : 1 ≤ n) (hc : n ≤ cap) (k : GO P E ops K rest ⟨Sx.putT t0 o.dst (.v (.c (.k (.slice (tailA A cap de.size) (n - 1) (cap - 1))))), m⟩) : GO P E ops K (o :: rest) ⟨t0, m⟩ := by
  intro ρ a w hs
  have hkind := (hT.ok t dd ht).kind
  rw [hk] at hkind
  have hsz := (hT.ok e de he).size w
  have hy' := hs.eval y
  rw [show (St.mk t0 m).ev y = _ from hy] at hy'
  have e1 : a.eval y = .slice A n cap := hy'.2
  have hbd : (Instr.sliceBounds true n cap (some (.int .i64 1)) none none).run P w = .ok (1, n, cap) w := by
    have := sliceBounds_run (P := P) (b := true) (η := a.eval) (len := n) (cap := cap) (lo := some (.const (.int .i64 1))) (hi := none) (l := 1) (h := (n : Int)) (.inr ⟨_, _, rfl, rfl⟩) (.inl ⟨rfl, rfl⟩) (by omega) (by omega) (by omega) w
    simpa [Act.eval_const] using this
  unfold wpL
  rw [if_pos (by simp [Region.wanted, hg])]
  refine .inl ?_
  refine Snd.go hs (dstOk_lt hd) (tv := .v (.c (.k (.slice (tailA A cap de.size) (n - 1) (cap - 1))))) (Snd.here hs.mem (v := .slice (tailA A cap de.size) (n - 1) (cap - 1)) ?_ ⟨trivial, rfl⟩) fun ρ' a' w' hs'' => k ρ' a' w' hs''
  simp only [execOp, hop, Instr.sliceAt, Instr.slice, Sem.run_bind, hkind w, Result.andThen_ok, e1, Act.eval_const, Option.map_some, Option.map_none, hbd, hsz, Sem.run_pure, tailA]
theorem GO.runN (hT : Tab.fine P T) (n : Nat) {ops : Array Oper} {rest : List Oper} {obs obs' : List Prop} {t t' : Nat → TV} {m m' : Mem} (h : runOps T E.N ops (rest.take n) t m obs = .mk t' m' [] obs') (ho : AllP obs') (k : GO P E ops K (rest.drop n) ⟨t', m'⟩) : GO P E ops K rest ⟨t, m⟩ := by
  induction n generalizing rest t m obs with
  | zero => rw [List.take_zero] at h; injection h with h1 h2 h3 h4; subst h1; subst h2; simpa using k
  | succ n ih =>
    cases rest with
    | nil => rw [List.take_nil] at h; injection h with h1 h2 h3 h4; subst h1; subst h2; simpa using k
    | cons o r =>
      rw [List.take_succ_cons, runOps_cons] at h
      split at h
      · injection h with h1 h2 h3 h4; cases h3
      · rename_i tv m1 ob he
        exact GO.step hT he (AllP_append.1 (runOps_ob h ho)).1 (ih h (by simpa using k))
/-- The first n operations. -/
theorem GO.firstN (hT : Tab.fine P T) (n : Nat) {ops : Array Oper} {rest : List Oper} {obs' : List Prop} {t t' : Nat → TV} {m m' : Mem} (h : runOps T E.N ops (rest.take n) t m [] = .mk t' m' [] obs') (ho : AllP obs') (k : GO P E ops K (rest.drop n) ⟨t', m'⟩) : GO P E ops K rest ⟨t, m⟩ := GO.runN hT n h ho k
/-- What lay there lies as it lay. -/
def asOf (w0 w : World) : Prop := w0.heap.size ≤ w.heap.size ∧ ∀ k, k < w0.heap.size → w.heap[k]? = w0.heap[k]?
theorem asOf.refl (w : World) : asOf w w := ⟨Nat.le_refl _, fun _ _ => rfl⟩
theorem steady_asOf (w0 : World) : Steady (· < w0.heap.size) (asOf w0) := fun w1 w2 h1 h2 h => ⟨Nat.le_trans h.1 h2, fun k hk => (h1 k hk).trans (h.2 k hk)⟩
theorem RdRow.asOf {w0 w : World} {A : Option Addr} {n sz : Nat} {el : Nat → List Value} (h : RdRow w0 A n sz el) (ha : Sx.asOf w0 w) : RdRow w A n sz el := by
  intro h0
  obtain ⟨b, o, rfl, h1, h2⟩ := h h0
  exact ⟨b, o, rfl, Nat.lt_of_lt_of_le h1 ha.1, fun i hi => ⟨(h2 i hi).1, fun j hj => (World.cell?_of_block (w := w0) (ha.2 b h1)).trans ((h2 i hi).2 j hj)⟩⟩
theorem heap_asOf {w0 w : World} {b : Nat} {o : Obj} (h : w0.heap[b]? = some o) (ha : Sx.asOf w0 w) : w.heap[b]? = some o := (ha.2 b (lt_of_heap h)).trans h
theorem sb_lt {w : World} {A : Option Addr} {n c sz : Nat} {el : Nat → List Value} (h : RdRow w A n sz el) : ∀ k, sb (.slice A n c) k → k < w.heap.size := by
  rintro k ⟨h0, a, rfl, rfl⟩
  obtain ⟨b, o, e, h1, _⟩ := h h0
  cases e
  exact h1
/-- The entry of a function that turns nothing that was there. -/
theorem enterOld {f : FuncId} {fn : Func} {c : Code} {args : Array Value} {w : World} {R : Ending → World → Prop} (avs : List AV) (hf : P.funcs[f]? = some fn) (hb : fn.body = some c) (N : Nat) (hN : fn.ntmps = N) (hargs : args = (avs.map (AV.conc fun _ => (0, 0))).toArray)
    (hl : Nat.ble avs.length N = true) (hc : allCn avs) (h : G P ⟨w, [], N, none, []⟩ (retK P ⟨w, [], N, none, []⟩ fn R) c ⟨argsT avs, lkM [(1, .say (· < w.heap.size) (asOf w))]⟩) : Calls P f args w R :=
  enterSay [] avs [(1, .say (· < w.heap.size) (asOf w))] hf hb N hN hargs hl hc ⟨⟨asOf.refl w, fun k hk => hk, steady_asOf w⟩, trivial, trivial⟩ h
theorem retK.plain (hT : Tab.fine P T) {w : World} {N : Nat} {fn : Func} {st : St} {v u : Value} (h : resP T st fn.results.toList = .mk u) (e : u = v) : retK P ⟨w, [], N, none, []⟩ fn (fun e w' => e = .returned v ∧ Below w.heap.size w w') .ret st :=
  endK_ret hT (endK.ret h e)
/-- A load through a constant pointer of which it is told what lies there. -/
def loadAV (d : TyD) (cs : List Value) : AV := match d.kind.isAgg with
  | true => .agg (cs.map .k)
  | false => .c (.k (cs.headD undef))
theorem loadK_run (hT : Tab.fine P T) {t b : Nat} {ty : TypeId} {cs : List Value} {d : TyD} (ht : T t = some d) (hl : cs.length = d.size) {w : World} (hw : w.heap[b]? = some (.cells cs.toArray ty (0, 0))) (ρ : Val) : (Instr.loadAt t (.pointer (some ⟨b, 0, none⟩))).run P w = .ok ((loadAV d cs).conc ρ) w := by
  have := run_load_list (P := P) (hT.ok t d ht) (w := w) (b := b) (o := 0) (cs := cs) hl fun j v hj => by
    rw [Nat.zero_add, cell_of_heap hw, List.getElem?_toArray]; exact hj
  rw [this]
  unfold loadAV
  cases d.kind.isAgg with
  | true => simp only [cond_true, AV.conc, map_conc_k]
  | false => rfl
theorem loadAV_ok (d : TyD) (cs : List Value) (ρ : Val) (m : Mem) : (loadAV d cs).ok ρ m := by
  unfold loadAV
  cases d.kind.isAgg with
  | true => intro a ha; obtain ⟨v, _, rfl⟩ := List.mem_map.1 ha; trivial
  | false => trivial
theorem Steps.loadK (hT : Tab.fine P T) {ops : Array Oper} {o : Oper} {C : St} {t b : Nat} {y : Operand} {S : Nat → Prop} {R : World → Prop} {d : TyD} {ty : TypeId} (X : Nat) (cs : List Value) (hg : o.guard = none) (hop : o.op = .load t y) (hd : dstOk E.N o.dst = true) (hy : evT C.t y = .v (.c (.k (.pointer (some ⟨b, 0, none⟩)))))
    (hX : C.m X = some (.say S R)) (hR : ∀ w, R w → w.heap[b]? = some (.cells cs.toArray ty (0, 0))) (ht : T t = some d) (hl : cs.length = d.size) : Steps P E ops o C (.v (loadAV d cs)) [] := by
  intro st hle ρ a w hs Kc Q hk
  have hs' := hs.weakT hle.t
  have hX' : st.m X = some (.say S R) := by
    rcases hle.m X with h | h
    · rw [hX] at h; cases h
    · exact h.trans hX
  have hw := hR w (hs.mem.ok X _ hX').1
  have e1 : a.eval y = .pointer (some ⟨b, 0, none⟩) := by have := hs'.eval y; rw [show (St.mk C.t st.m).ev y = _ from hy] at this; exact this.2
  rw [if_pos (by simp [Region.wanted, hg])]
  refine .inl ?_
  refine Snd.go hs (dstOk_lt hd) (tv := .v (loadAV d cs)) (Snd.here hs.mem (v := (loadAV d cs).conc ρ) ?_ ⟨loadAV_ok _ _ _ _, rfl⟩) fun ρ' a' w' hs'' => hk ρ' a' w' hs''
  simp only [execOp, hop, Sem.run_bind, e1, loadK_run hT ht hl hw ρ, Result.andThen_ok, Sem.run_pure]
theorem Steps.loadKG (hT : Tab.fine P T) {ops : Array Oper} {o : Oper} {C : St} {t b j : Nat} {want cb : Bool} {y : Operand} {S : Nat → Prop} {R : World → Prop} {d : TyD} {ty : TypeId} (X : Nat) (cs : List Value) (hg : o.guard = some (j, want)) (hb : guardB ops C.t j want = some cb) (hob : AllP (stripObs C.t j want cb (slotsOf o.op.operands.toList))) (hop : o.op = .load t y) (hd : dstOk E.N o.dst = true)
    (hy : evT (tG C.t j want (slotsOf o.op.operands.toList)) y = .v (.c (.k (.pointer (some ⟨b, 0, none⟩)))))
    (hX : C.m X = some (.say S R)) (hR : ∀ w, R w → w.heap[b]? = some (.cells cs.toArray ty (0, 0))) (ht : T t = some d) (hl : cs.length = d.size) : Steps P E ops o C (.grd j want cb (loadAV d cs)) [] := by
  intro st hle ρ a w hs Kc Q hk
  have hs' := hs.weakT hle.t
  have hw := wanted_cond (ops := ops) hs' hg hb
  rw [hw]
  cases hcb : cb with
  | true =>
    subst hcb
    have hX' : st.m X = some (.say S R) := by
      rcases hle.m X with h | h
      · rw [hX] at h; cases h
      · exact h.trans hX
    have hw := hR w (hs.mem.ok X _ hX').1
    have e1 : a.eval y = .pointer (some ⟨b, 0, none⟩) := by
      have := (hs'.tG hob rfl).eval y
      rw [show (St.mk (tG C.t j want (slotsOf o.op.operands.toList)) st.m).ev y = _ from hy] at this
      exact this.2
    rw [if_pos rfl]
    refine .inl ?_
    refine Snd.go hs (dstOk_lt hd) (tv := .grd j want true (loadAV d cs)) (Snd.here hs.mem (v := (loadAV d cs).conc ρ) ?_ ⟨fun _ => ⟨loadAV_ok _ _ _ _, rfl⟩, fun h => by cases h⟩) fun ρ' a' w' hs'' => hk ρ' a' w' hs''
    simp only [execOp, hop, Sem.run_bind, e1, loadK_run hT ht hl hw ρ, Result.andThen_ok, Sem.run_pure]
  | false =>
    subst hcb
    rw [if_neg (by simp)]
    exact hk ρ _ w (hs.putT (dstOk_lt hd) ⟨fun hf => (by cases hf), fun _ => rfl⟩)
theorem GD.stepF {l : List Oper} {cls : List Nat} {X : List (Nat × Nat)} {base : St} {recs : List DR} {o : Oper} {rest : List Oper} {t : Nat → TV} {m : Mem} {tv : TV} {ms : List (Nat × Blk)} (i : Nat) (hi : recs.length = i) (h : Steps P E l.toArray o (canF l cls X base i recs) tv ms) (hn : Wok X i o ms = true)
    (k : GD P E K l cls X base (⟨o, tv, ms⟩ :: recs) rest (Sx.putT t o.dst tv) (upm m ms)) : GD P E K l cls X base recs (o :: rest) t m := by
  rw [canF_eq hi] at h
  exact GD.step h (by rw [hi]; exact hn) k
def allCalm (T : List Nat) (xJ : Nat) : List (Nat × Blk) → Prop
  | [] => True
  | p :: r => (p.1 = xJ ∨ (p.1 < 1000 ∧ Blk.calm T 0 p.2)) ∧ allCalm T xJ r
theorem calm_of {T : List Nat} {xJ : Nat} {ml : List (Nat × Blk)} (h : allCalm T xJ ml) : ∀ y b, y ≠ xJ → lkM ml y = some b → y < 1000 ∧ Blk.calm T 0 b := by
  induction ml with
  | nil => intro y b _ hb; cases hb
  | cons p r ih =>
    intro y b hy hb
    simp only [lkM] at hb
    cases hq : Nat.beq y p.1 with
    | true =>
      rw [hq] at hb
      simp only [cond_true] at hb
      injection hb with hb
      have e := Nat.eq_of_beq_eq_true hq
      rcases h.1 with h1 | h1
      · exact absurd (e.trans h1) hy
      · rw [e, ← hb]; exact h1
    | false =>
      rw [hq] at hb
      exact ih h.2 y b hy hb
theorem SatM.sayAt {ρ : Val} {m : Mem} {w : World} (h : SatM E ρ m w) {X : Nat} {S : Nat → Prop} {R : World → Prop} (hX : m X = some (.say S R)) : R w ∧ ∀ k, S k → k < w.heap.size ∧ ∀ y b, m y = some b → b.own → (ρ y).1 ≠ k := by
  obtain ⟨h1, h2, h3⟩ := h.ok X _ hX
  refine ⟨h1, fun k hk => ⟨h2 k hk, fun y b hy hb e => ?_⟩⟩
  have hyX : y ≠ X := fun e => by subst e; rw [hX] at hy; cases hy; exact hb
  exact h.ne y X b _ hy hX hb trivial hyX (e ▸ hk)
end
end Go.Sx
/- The symbolic executor, part AU: functions that range over a function, walked part by part; calls of yield with fresh values. Generic over P. -/
set_option linter.unusedVariables false
set_option linter.unusedSimpArgs false
namespace Go.Sx
open Go.RowKit
section
variable {P : Program} {E : Env} {K : Exit → St → Prop} {T : Tab}
/-- The one part by states, the other one as it is. -/
def rawK (P : Program) (E : Env) (y : Code) (Q : Exit → Act → World → Prop) : Exit → St → Prop := fun e st => e = .normal ∧ ∀ ρ a w, Sat E ρ st a w → y.wpIn (fenR none) 6 P Q a w
theorem rawSeq (h0 : E.rnd = none) {x y : Code} {Q : Exit → Act → World → Prop} {ρ : Val} {st : St} {a : Act} {w : World} (hs : Sat E ρ st a w) (h : G P E (rawK P E y Q) x st) : (Code.seq x y).wpIn (fenR none) 6 P Q a w := by
  have h1 := h (fun hr => by rw [h0] at hr; cases hr) ρ a w hs
  rw [h0] at h1
  refine wpIn_seq (wpIn_mono h1 ?_)
  rintro e a' w' ⟨ρ', st', hs', rfl, hk⟩
  exact hk ρ' a' w' hs'
theorem enterRaw {f : FuncId} {fn : Func} {c : Code} {args : Array Value} {w : World} {R : Ending → World → Prop} (L : List Nat) (avs : List AV) (ml : List (Nat × Blk)) (hf : P.funcs[f]? = some fn) (hb : fn.body = some c) (N : Nat) (hN : fn.ntmps = N) (hargs : args = (avs.map (AV.conc fun _ => (0, 0))).toArray)
    (hl : Nat.ble avs.length N = true) (hc : allCn avs) (hm : mlOK 1000 L w ml) (h : ∀ ρ a, Sat ⟨w, borT 1000 L, N, none, []⟩ ρ ⟨argsT avs, lkM ml⟩ a w → c.wpIn (fenR none) 6 P (bodyPostM (fenR none) 6 P fn R) a w) : Calls P f args w R := by
  subst hN
  have hl := Nat.le_of_ble_eq_true hl
  have h0 : Sat ⟨w, borT 1000 L, fn.ntmps, none, []⟩ (ρT 1000 L) (St.of [] ml) { tmps := args ++ Array.replicate (fn.ntmps - args.size) undef, defers := [] } w :=
    Sat.say0 (Nat.le_refl _) rfl (by rw [hargs]; simp; omega) trivial hm
  refine callsIn_wide.1 (callsIn_of_wp_marks (n := 6) (F := Fence.wide) hf hb trivial (h (ρT 1000 L) _ ⟨h0.mem, h0.df, h0.sz, fun j => ?_⟩))
  show (argsT avs j).rep _ _ _
  unfold argsT
  cases hj : avs[j]? with
  | none => trivial
  | some a =>
    have hlt : j < avs.length := (List.getElem?_eq_some_iff.1 hj).1
    have hmem : a ∈ avs := List.mem_of_getElem? hj
    have hr := cnV_rep (allCn_mem hc a hmem) (ρT 1000 L) (fun _ => (0, 0)) (lkM ml)
    refine ⟨hr.1, ?_⟩
    rw [← hr.2, hargs, Array.getD_eq_getD_getElem?, Array.getElem?_append_left (by simpa using hlt)]
    simp [hj]
/-- The end, with the mark of a range that is over. -/
theorem marks_end {fn : Func} {R : Ending → World → Prop} {e : Exit} {a : Act} {w : World} {D : Nat} {v : Value} (he : e = .ret ∨ e = .normal) (hd : a.defers = [{ target := .collected D, args := #[] }]) (hK : w.heap[D]? = some (.deferred (some [])))
    (hv : (results fn a.tmps).run P (w.putObj D (.deferred none)) = .ok v (w.putObj D (.deferred none))) (hR : R (.returned v) (w.putObj D (.deferred none))) : bodyPostM (fenR none) 6 P fn R e a w := by
  have h : LeavesInM (fenR none) 6 P fn a.tmps R a.defers .returning w := by
    rw [hd]
    exact ⟨by simp, .inl ⟨D, _, rfl, run_takeDeferred hK, v, hv, hR⟩⟩
  rcases he with rfl | rfl <;> exact h
theorem results_none {fn : Func} (h : fn.results = #[]) (tmps : Array Value) (w : World) : (results fn tmps).run P w = .ok (.tuple #[]) w := by
  simp [results, h]
/-- What a temporary holds. -/
theorem Sat.tmK {ρ : Val} {st : St} {a : Act} {w : World} (hs : Sat E ρ st a w) {j : Nat} {v : Value} (h : st.t j = .v (.c (.k v))) : a.tmps.getD j undef = v := by
  have := hs.tm j
  rw [h] at this
  exact this.2
theorem Sat.tmP {ρ : Val} {st : St} {a : Act} {w : World} (hs : Sat E ρ st a w) {j x n2 off : Nat} {ty : TypeId} {cells : List AC} (h : st.t j = .v (.c (.ptr x 0 n2 0))) (hx : st.m x = some (.var ty cells)) : a.tmps.getD j undef = .pointer (some ⟨(ρ x).1, 0, none⟩) ∧ w.heap[(ρ x).1]? = some (.cells (cells.map (AC.conc ρ)).toArray ty (0, 0)) ∧ (E.w0.heap.size ≤ (ρ x).1 ∨ (x, (ρ x).1) ∈ E.bor) ∧ (ρ x).1 < w.heap.size := by
  have h1 := hs.tm j
  rw [h] at h1
  have h2 := hs.mem.ok x _ hx
  refine ⟨h1.2.trans ?_, h2.2.2.1, hs.mem.ownGe hx trivial, hs.mem.lt hx trivial⟩
  simp [AV.conc, AC.conc, h2.1]
theorem getD_setNe {a : Array Value} {p j : Nat} {v : Value} (h : j ≠ p) : (a.setIfInBounds p v).getD j undef = a.getD j undef := by
  simp only [Array.getD_eq_getD_getElem?]
  rw [Array.getElem?_setIfInBounds_ne (by omega)]
theorem getD_setEq {a : Array Value} {p : Nat} {v : Value} (h : p < a.size) : (a.setIfInBounds p v).getD p undef = v := by
  simp [Array.getD_eq_getD_getElem?, Array.getElem?_setIfInBounds, h]
/-- A row that grows becomes a constant. -/
def accC (n c : Nat) : Nat := match n with
  | 0 => 0
  | _ + 1 => c
theorem accC_le {n c : Nat} (h : n ≤ c) : n ≤ accC n c := by cases n <;> first | exact Nat.le_refl _ | exact h
theorem Sat.freezeAcc {ρ : Val} {t : Nat → TV} {m : Mem} {a : Act} {w : World} (h : Sat E ρ ⟨t, m⟩ a w) {x d n sz c : Nat} {e : TypeId} {el : Nat → List Value} (ht : t d = .v (.c (accV x sz n c))) (hm : m x = some (accB e sz n c el)) :
    ∃ A, Sat E ρ ⟨up t d (.v (.c (.k (.slice A n (accC n c))))), up m x (some (.say (sb (.slice A n (accC n c))) fun w => RdRow w A n sz el))⟩ a w ∧ ∀ k, sb (.slice A n (accC n c)) k → E.w0.heap.size ≤ k ∨ (x, k) ∈ E.bor := by
  cases n with
  | succ n =>
    have h1 := h.freezeArr (n := n + 1) (c := c) ht hm (Nat.le_refl _)
    refine ⟨some ⟨(ρ x).1, 0, none⟩, ?_, ?_⟩
    · have e1 : sb (.slice (some ⟨(ρ x).1, 0, none⟩) (n + 1) (accC (n + 1) c)) = (· = (ρ x).1) := by
        funext k
        refine propext ⟨fun ⟨_, a, e, hk⟩ => by cases e; exact hk.symm, fun hk => ⟨Nat.succ_pos _, _, rfl, hk.symm⟩⟩
      rw [e1]
      exact h1
    · rintro k ⟨_, a, e, rfl⟩
      cases e
      exact h.mem.ownGe hm trivial
  | zero =>
    refine ⟨none, ?_, fun k hk => absurd hk.1 (Nat.lt_irrefl 0)⟩
    have hsz : ∀ y, (m y).isSome = true → (up m x (some (.say (sb (.slice none 0 (accC 0 c))) fun w => RdRow w none 0 sz el)) y).isSome = true := fun y hy => isSome_up y hy
    refine h.remem (h.mem.swap h.mem.fr (Nat.le_refl _) hsz fun y b hy => ?_) hsz ?_
    · by_cases e : y = x
      · subst e
        rw [up_same] at hy
        injection hy with hy
        subst hy
        exact .inr (.inl ⟨_, _, rfl, RdRow.nil _ _ _ _, fun k hk => absurd hk.1 (Nat.lt_irrefl 0), steady_row, fun z c hz hc ho hk => absurd hk.1 (Nat.lt_irrefl 0)⟩)
      · rw [up_other _ _ e] at hy
        exact .inl ⟨hy, fun _ _ _ => rfl⟩
    · have hd := h.tm d
      rw [show (St.mk t m).t d = _ from ht] at hd
      exact hd
theorem G.freezeAcc {c0 : Code} {t : Nat → TV} {m : Mem} (x d : Nat) {n sz c : Nat} {e : TypeId} {el : Nat → List Value} (ht : t d = .v (.c (accV x sz n c))) (hm : m x = some (accB e sz n c el))
    (k : ∀ A, (∀ k, sb (.slice A n (accC n c)) k → E.w0.heap.size ≤ k ∨ (x, k) ∈ E.bor) → G P E K c0 ⟨up t d (.v (.c (.k (.slice A n (accC n c))))), up m x (some (.say (sb (.slice A n (accC n c))) fun w => RdRow w A n sz el))⟩) : G P E K c0 ⟨t, m⟩ :=
  G.sem fun ρ a w hs => let ⟨A, h1, h2⟩ := hs.freezeAcc ht hm; ⟨ρ, _, h1, k A h2⟩
/-- The block of a range's deferred calls is shut. -/
theorem Sat.shutD {ρ : Val} {st : St} {a : Act} {w : World} (hs : Sat E ρ st a w) (X : Nat) {D : Nat} {R : World → Prop} (o : Obj) (hD : E.w0.heap.size ≤ D ∨ D ∈ E.bor.map (·.2)) (hX : st.m X = some (.say (· = D) R)) (hm : ∀ z b, z ≠ X → st.m z = some b → b.own) :
    Sat E ρ ⟨st.t, up st.m X (some (.say (fun _ => False) fun _ => True))⟩ a (w.putObj D o) := by
  obtain ⟨t, m⟩ := st
  refine hs.remem0 (hs.mem.swap (hs.mem.fr.putObj hD o) (by simp) (fun z hz => isSome_up z hz) fun z b hz => ?_) fun z hz => isSome_up z hz
  by_cases e : z = X
  · subst e
    rw [up_same] at hz
    injection hz with hz
    subst hz
    exact .inr (.inl ⟨_, _, rfl, trivial, (fun k hk => hk.elim), (fun _ _ _ _ _ => trivial), fun y c hy hc ho hk => hk⟩)
  · rw [up_other _ _ e] at hz
    refine .inl ⟨hz, fun k hl hk => World.putObj_heap_other ?_⟩
    have ho := hm z b e hz
    have h1 := hs.mem.ne z X b _ hz hX ho trivial e
    have : k = (ρ z).1 := by
      cases b <;> first
        | exact hk
        | exact ho.elim
    rintro rfl
    exact h1 this.symm
/-! ### Yield with what is fresh -/
theorem Rounds.later {α : Type} {l : Nat} {L : List Nat} {Rel : α → World → Value → Prop} {xs : List α} {J : List α → (Nat → Prop) → World → Prop} {W W' : World} (h : Rounds P l L Rel xs J W) (hs : Same W W') : Rounds P l L Rel xs J W' :=
  ⟨h.1, fun s x v Z W1 hx h1 => h.2 s x v Z W1 hx (hs.trans h1)⟩
theorem GO.yieldF {α : Type} {ops : Array Oper} {rest : List Oper} {o : Oper} {c : Call} {y z : Operand} {l : Nat} {av : AV} {t : Nat → TV} {m : Mem} {L : List Nat} {Rel : α → World → Value → Prop} {xs : List α} {J : List α → (Nat → Prop) → World → Prop} (xJ : Nat) (s : List α) (x : α) (Z : Nat → Prop)
    (hR : Rounds P l L Rel xs J E.w0) (hxs : x ∈ xs) (hE : E.bor = borT 1000 L) (hT : ∀ k ∈ L, k < E.w0.heap.size) (hx : m xJ = some (.say Z (J s Z)))
    (hg : o.guard = none) (hop : o.op = .call c) (hc : c.callee = .value y) (ha : c.args = #[z]) (hy : evT t y = .v (.c (.k (.func (.yield l) #[] #[])))) (hz : evT t z = .v av) (hd : dstOk E.N o.dst = true)
    (hcalm : ∀ y b, y ≠ xJ → m y = some b → y < 1000 ∧ Blk.calm L 0 b)
    (hrel : ∀ ρ w, SatM E ρ m w → av.ok ρ m → Rel x w (av.conc ρ) ∧ (∀ k, vbk (av.conc ρ) k → E.w0.heap.size ≤ k ∧ k < w.heap.size ∧ ∀ y b, m y = some b → b.own → (ρ y).1 ≠ k))
    (k : ∀ Z' : Nat → Prop, (∀ k, Z' k → Z k ∨ E.w0.heap.size ≤ k) → GO P E ops K rest ⟨Sx.putT t o.dst (.v (.c (.k (.bool true)))), up m xJ (some (.say Z' (J (s ++ [x]) Z')))⟩) : GO P E ops K (o :: rest) ⟨t, m⟩ := by
  intro ρ a w hs
  unfold wpL
  rw [if_pos (by simp [Region.wanted, hg])]
  refine .inr ?_
  obtain ⟨hrun, hok⟩ := yield_run hs hop hc ha hy hz
  obtain ⟨j1, j2, j3⟩ := hs.mem.ok _ _ hx
  obtain ⟨r1, r2⟩ := hrel ρ w hs.mem hok
  obtain ⟨fn, tmps, assign, body, h1, h2⟩ := hR.2 s x _ Z w hxs hs.mem.fr.same j1 j2 r1 fun k hk => ⟨(r2 k hk).2.1, fun hkL => by have := hT k hkL; have := (r2 k hk).1; omega⟩
  refine ⟨l, fn, tmps, assign, body, w, hrun.trans h1, RoundIn.mono h2 ?_⟩
  rintro e W' ⟨rfl, hfr, Z', hj, hZ⟩
  refine ⟨_, rfl, k Z' (fun k hk => ?_) ρ _ W' ((hs.remem0 (hs.mem.yielded hE hT hfr hx hcalm (V := vbk (av.conc ρ)) (fun y b hy ho hk => (r2 _ hk).2.2 y b hy ho rfl) hj (hR.1 _ _) hZ) fun z hz => isSome_up z hz).putT (dstOk_lt hd) ⟨trivial, rfl⟩)⟩
  rcases (hZ k hk).1 with h | h | h
  · exact .inl h
  · exact .inr (r2 k h).1
  · exact .inr (Nat.le_trans hs.mem.fr.size h)
theorem GO.yieldTF {α : Type} {ops : Array Oper} {rest : List Oper} {o : Oper} {c : Call} {y z : Operand} {l j : Nat} {want cb : Bool} {av : AV} {t : Nat → TV} {m : Mem} {L : List Nat} {Rel : α → World → Value → Prop} {xs : List α} {J : List α → (Nat → Prop) → World → Prop} (xJ : Nat) (s : List α) (x : α) (Z : Nat → Prop)
    (hR : Rounds P l L Rel xs J E.w0) (hxs : cb = true → x ∈ xs) (hE : E.bor = borT 1000 L) (hT : ∀ k ∈ L, k < E.w0.heap.size) (hx : m xJ = some (.say Z (J s Z)))
    (hg : o.guard = some (j, want)) (hb : guardB ops t j want = some cb) (hob : AllP (stripObs t j want cb (slotsOf o.op.operands.toList))) (hop : o.op = .call c) (hc : c.callee = .value y) (ha : c.args = #[z])
    (hy : evT (tG t j want (slotsOf o.op.operands.toList)) y = .v (.c (.k (.func (.yield l) #[] #[])))) (hz : evT (tG t j want (slotsOf o.op.operands.toList)) z = .v av) (hd : dstOk E.N o.dst = true)
    (hcalm : cb = true → ∀ y b, y ≠ xJ → m y = some b → y < 1000 ∧ Blk.calm L 0 b)
    (hrel : cb = true → ∀ ρ w, SatM E ρ m w → av.ok ρ m → Rel x w (av.conc ρ) ∧ (∀ k, vbk (av.conc ρ) k → E.w0.heap.size ≤ k ∧ k < w.heap.size ∧ ∀ y b, m y = some b → b.own → (ρ y).1 ≠ k))
    (k : ∀ Z' : Nat → Prop, (∀ k, Z' k → Z k ∨ E.w0.heap.size ≤ k) → GO P E ops K rest ⟨Sx.putT t o.dst (.grd j want cb (.c (.k (.bool true)))), up m xJ (some (.say Z' (J (bif cb then s ++ [x] else s) Z')))⟩) : GO P E ops K (o :: rest) ⟨t, m⟩ := by
  intro ρ a w hs
  have hw := wanted_cond (ops := ops) hs hg hb
  unfold wpL
  rw [hw]
  cases hcb : cb with
  | false =>
    subst hcb
    rw [if_neg (by simp)]
    have := hs.putT (dstOk_lt hd) (tv := .grd j want false (.c (.k (.bool true)))) (v := undef) ⟨fun ht => (by cases ht), fun _ => rfl⟩
    refine k Z (fun k hk => .inl hk) ρ _ w ?_
    have e : up m xJ (some (.say Z (J s Z))) = m := by
      funext q
      by_cases e : q = xJ
      · subst e; rw [up_same, hx]
      · rw [up_other _ _ e]
    simp only [cond_false, e]
    exact this
  | true =>
    subst hcb
    rw [if_pos rfl]
    refine .inr ?_
    obtain ⟨hrun, hok⟩ := yield_run (hs.tG hob rfl) hop hc ha hy hz
    obtain ⟨j1, j2, j3⟩ := hs.mem.ok _ _ hx
    obtain ⟨r1, r2⟩ := hrel rfl ρ w hs.mem hok
    obtain ⟨fn, tmps, assign, body, h1, h2⟩ := hR.2 s x _ Z w (hxs rfl) hs.mem.fr.same j1 j2 r1 fun k hk => ⟨(r2 k hk).2.1, fun hkL => by have := hT k hkL; have := (r2 k hk).1; omega⟩
    refine ⟨l, fn, tmps, assign, body, w, hrun.trans h1, RoundIn.mono h2 ?_⟩
    rintro e W' ⟨rfl, hfr, Z', hj, hZ⟩
    refine ⟨_, rfl, k Z' (fun k hk => ?_) ρ _ W' ((hs.remem0 (hs.mem.yielded hE hT hfr hx (hcalm rfl) (V := vbk (av.conc ρ)) (fun y b hy ho hk => (r2 _ hk).2.2 y b hy ho rfl) hj (hR.1 _ _) hZ) fun z hz => isSome_up z hz).putT (dstOk_lt hd) ⟨fun _ => ⟨trivial, rfl⟩, fun h => by cases h⟩)⟩
    rcases (hZ k hk).1 with h | h | h
    · exact .inl h
    · exact .inr (r2 k h).1
    · exact .inr (Nat.le_trans hs.mem.fr.size h)
/-- The same in a region that draws: what is fresh. -/
def limZ (B Z : Nat → Prop) : Nat → Prop := fun k => Z k ∧ B k
theorem limZ_eq {B Z : Nat → Prop} (h : ∀ k, Z k → B k) : limZ B Z = Z := funext fun k => propext ⟨fun h => h.1, fun hk => ⟨hk, h k hk⟩⟩
def yieldGF {α : Type} (B : Nat → Prop) (xJ j : Nat) (want cb : Bool) (J : List α → (Nat → Prop) → World → Prop) (s' : List α) : Fam := ⟨fun _ => .grd j want cb (.c (.k (.bool true))), fun u => [(xJ, .say (limZ B u.2) (J s' (limZ B u.2)))], [xJ], true⟩
theorem StepsC.yieldGF {α : Type} {ops : Array Oper} {o : Oper} {c : Call} {y z : Operand} {l j : Nat} {want cb : Bool} {av : AV} {C : St} {L : List Nat} {Rel : α → World → Value → Prop} {xs : List α} {J : List α → (Nat → Prop) → World → Prop} (xJ : Nat) (s : List α) (x : α) (Z : Nat → Prop)
    (hR : Rounds P l L Rel xs J E.w0) (hxs : cb = true → x ∈ xs) (hE : E.bor = borT 1000 L) (hT : ∀ k ∈ L, k < E.w0.heap.size) (hx : C.m xJ = some (.say Z (J s Z)))
    (hg : o.guard = some (j, want)) (hb : guardB ops C.t j want = some cb) (hob : AllP (stripObs C.t j want cb (slotsOf o.op.operands.toList))) (hop : o.op = .call c) (hc : c.callee = .value y) (ha : c.args = #[z])
    (hy : evT (tG C.t j want (slotsOf o.op.operands.toList)) y = .v (.c (.k (.func (.yield l) #[] #[])))) (hz : evT (tG C.t j want (slotsOf o.op.operands.toList)) z = .v av) (hd : dstOk E.N o.dst = true)
    (hcalm : cb = true → ∀ y b, y ≠ xJ → C.m y = some b → y < 1000 ∧ Blk.calm L 0 b)
    (hrel : cb = true → ∀ ρ w, SatM E ρ C.m w → av.ok ρ C.m → Rel x w (av.conc ρ) ∧ (∀ k, vbk (av.conc ρ) k → E.w0.heap.size ≤ k ∧ k < w.heap.size ∧ ∀ y b, C.m y = some b → b.own → (ρ y).1 ≠ k)) :
    StepsC P E ops o C (Sx.yieldGF (fun k => Z k ∨ E.w0.heap.size ≤ k) xJ j want cb J (bif cb then s ++ [x] else s)) := by
  intro st hle hfull ρ a w hs Kc Q hk
  have hm : st.m = C.m := hfull rfl
  have hs' := hs.weakT hle.t
  have hw := wanted_cond (ops := ops) hs' hg hb
  have e : ∀ u, upm st.m ((Sx.yieldGF (fun k => Z k ∨ E.w0.heap.size ≤ k) xJ j want cb J (bif cb then s ++ [x] else s)).ms u) = up st.m xJ (some (.say (limZ (fun k => Z k ∨ E.w0.heap.size ≤ k) u.2) (J (bif cb then s ++ [x] else s) (limZ (fun k => Z k ∨ E.w0.heap.size ≤ k) u.2)))) := fun u => upm_one _ _ _
  rw [← hm] at hx hcalm hrel
  rw [hw]
  cases hcb : cb with
  | false =>
    subst hcb
    rw [if_neg (by simp)]
    refine hk (undef, Z) ρ _ w ?_
    have e2 : up st.m xJ (some (.say Z (J s Z))) = st.m := by
      funext q
      by_cases e : q = xJ
      · subst e; rw [up_same, hx]
      · rw [up_other _ _ e]
    rw [e, limZ_eq (fun k hk => .inl hk)]
    simp only [cond_false, e2]
    exact hs.putT (dstOk_lt hd) (tv := .grd j want false (.c (.k (.bool true)))) (v := undef) ⟨fun ht => (by cases ht), fun _ => rfl⟩
  | true =>
    subst hcb
    rw [if_pos rfl]
    refine .inr ?_
    obtain ⟨hrun, hok⟩ := yield_run (hs'.tG hob rfl) hop hc ha hy hz
    obtain ⟨j1, j2, j3⟩ := hs.mem.ok _ _ hx
    obtain ⟨r1, r2⟩ := hrel rfl ρ w hs.mem hok
    obtain ⟨fn, tmps, assign, body, h1, h2⟩ := hR.2 s x _ Z w (hxs rfl) hs.mem.fr.same j1 j2 r1 fun k hk => ⟨(r2 k hk).2.1, fun hkL => by have := hT k hkL; have := (r2 k hk).1; omega⟩
    refine ⟨l, fn, tmps, assign, body, w, hrun.trans h1, RoundIn.mono h2 ?_⟩
    rintro e' W' ⟨rfl, hfr, Z', hj, hZ⟩
    refine ⟨_, rfl, hk (undef, Z') ρ _ W' ?_⟩
    rw [e, limZ_eq (Z := Z') (fun k hk => by
      rcases (hZ k hk).1 with h | h | h
      · exact .inl h
      · exact .inr (r2 k h).1
      · exact .inr (Nat.le_trans hs.mem.fr.size h))]
    exact ((hs.remem0 (hs.mem.yielded hE hT hfr hx (hcalm rfl) (V := vbk (av.conc ρ)) (fun y b hy ho hk => (r2 _ hk).2.2 y b hy ho rfl) hj (hR.1 _ _) hZ) fun z hz => isSome_up z hz).putT (dstOk_lt hd) ⟨fun _ => ⟨trivial, rfl⟩, fun h => by cases h⟩)
end
end Go.Sx
/- The symbolic executor, part AV: a constant slice that is loaded and named at once; choices whose form is known; functions that answer with a closure over two boxes. Generic over P. -/
set_option linter.unusedVariables false
set_option linter.unusedSimpArgs false
namespace Go.Sx
open Go.RowKit
section
variable {P : Program} {E : Env} {K : Exit → St → Prop} {T : Tab}
theorem up_up {α : Type} (f : Nat → α) (d : Nat) (u v : α) : up (up f d u) d v = up f d v := by
  funext j
  by_cases e : j = d
  · subst e; rw [up_same, up_same]
  · rw [up_other _ _ e, up_other _ _ e, up_other _ _ e]
theorem Steps.loadOpen (hT : Tab.fine P T) {ops : Array Oper} {o : Oper} {C : St} {t b dd : Nat} {y : Operand} {S : Nat → Prop} {R : World → Prop} {d : TyD} {ty : TypeId} (X yn : Nat) (A : Option Addr) (n cap sz : Nat) (el : Nat → List Value) (hg : o.guard = none) (hop : o.op = .load t y) (ho : o.dst = some dd) (hd : dstOk E.N o.dst = true) (hy : evT C.t y = .v (.c (.k (.pointer (some ⟨b, 0, none⟩)))))
    (hX : C.m X = some (.say S R)) (hR : ∀ w, R w → w.heap[b]? = some (.cells #[.slice A n cap] ty (0, 0))) (ht : T t = some d) (hl : 1 = d.size) (hag : d.kind.isAgg = false) (hRd : ∀ w, R w → RdRow w A n sz el) (hS : ∀ k, sb (.slice A n cap) k → S k) (hyn : C.m yn = none) (hyb : Nat.blt yn 1000 = true) :
    Steps P E ops o C (.v (.c (.inp yn A n cap))) [(yn, .ro sz n el)] := by
  intro st hle ρ a w hs Kc Q hk
  have hX' : st.m X = some (.say S R) := by
    rcases hle.m X with h | h
    · rw [hX] at h; cases h
    · exact h.trans hX
  have hy' : st.m yn = none := (hle.n yn (by simp [mget])).trans hyn
  refine Steps.loadK hT X [.slice A n cap] hg hop hd hy hX (by simpa using hR) ht hl st ⟨hle.t, hle.m, hle.d, fun y h => by cases h⟩ ρ a w hs Kc Q fun ρ' a' w' hs' => ?_
  have e1 : loadAV d [Value.slice A n cap] = .c (.k (.slice A n cap)) := by unfold loadAV; rw [hag]; rfl
  rw [e1, ho] at hs'
  have hs2 : Sat E ρ' ⟨up st.t dd (.v (.c (.k (.slice A n cap)))), st.m⟩ a' w' := hs'
  obtain ⟨ρ2, h2⟩ := hs2.openSay (X := X) (y := yn) (d := dd) hX' hRd hS (up_same _ _ _) hy' (by simpa [Nat.blt_eq] using hyb)
  refine hk ρ2 a' w' ?_
  rw [ho, upm_one]
  rw [up_up] at h2
  exact h2
/-- A family whose members another family has too. -/
theorem StepsC.conv {ops : Array Oper} {o : Oper} {C : St} {F F' : Fam} (h : StepsC P E ops o C F) (hn : F'.nm = F.nm) (hf : F'.full = F.full) (hF : ∀ (st : St) i ρ a w, Sat E ρ ⟨Sx.putT st.t o.dst (F.tv i), upm st.m (F.ms i)⟩ a w → ∃ i', F.tv i = F'.tv i' ∧ F.ms i = F'.ms i') : StepsC P E ops o C F' := by
  intro st hle hfull ρ a w hs Kc Q hk
  refine h st (by rw [← hn]; exact hle) (fun e => hfull (hf.trans e)) ρ a w hs Kc Q fun i ρ' a' w' hs' => ?_
  obtain ⟨i', e1, e2⟩ := hF st i ρ' a' w' hs'
  rw [e1, e2] at hs'
  exact hk i' ρ' a' w' hs'
def adrK (u : Cho) : Option Addr := match u.1 with
  | .slice A _ _ => A
  | _ => none
def slV (n : Nat) (u : Cho) : Value := .slice (adrK u) n (capN n u)
def conS (x d n sz : Nat) (el : Nat → List Value) : Fam := ⟨fun u => .v (.c (.k (slV n u))), fun u => [(d, .say (sb (slV n u)) (fun w => RdV w (slV n u) n sz el)), (x, .ro 0 0 fun _ => [])], [d, x], false⟩
theorem conS_nm {x d n sz : Nat} {el : Nat → List Value} : ∀ u y, (mget ((conS x d n sz el).ms u) y).isSome = true → y ∈ (conS x d n sz el).nm := by
  intro u y h
  simp only [conS, mget] at h ⊢
  cases hb : Nat.beq y d with
  | true => rw [Nat.eq_of_beq_eq_true hb]; simp
  | false =>
    rw [hb] at h
    cases hb : Nat.beq y x with
    | true => rw [Nat.eq_of_beq_eq_true hb]; simp
    | false => rw [hb] at h; cases h
theorem slV_of {w : World} {v : Value} {S : Nat → Prop} {n sz : Nat} {el : Nat → List Value} (h : RdV w v (n + 1) sz el) : v = slV (n + 1) (v, S) := by
  obtain ⟨A, c, rfl, _, h2⟩ := h
  have := h2 (Nat.succ_pos _)
  simp [slV, adrK, capN, capC, Nat.max_eq_left this]
theorem RdV.row {w : World} {A : Option Addr} {n c sz : Nat} {el : Nat → List Value} (h : RdV w (.slice A n c) n sz el) : RdRow w A n sz el := by
  obtain ⟨A', c', e, h1, _⟩ := h
  cases e
  exact h1
theorem StepsC.appendConS {ops : Array Oper} {o : Oper} {s y : Operand} {t e size bytes d x n c q c1 room : Nat} {z : Value} {C : St} {el : Nat → List Value} {ty1 : TypeId} (vs : List Value) (hp : ApT P t e size bytes z) (hg : o.guard = none) (hop : o.op = .call { callee := .builtin .append, args := #[s, y], argTypes := #[t, t] })
    (hd : o.dst = some d) (hdN : Nat.blt d E.N = true) (hxb : Nat.blt x 1000 = true) (hxd : Nat.beq x d = false) (hs : evT C.t s = .v (.c (.slc x 0 size n c))) (hx : C.m x = some (.arr e size n el room)) (hroom : (c - n) * size ≤ room) (hfree : C.m d = none)
    (hy : evT C.t y = .v (.c (.slc q 0 size 1 c1))) (hq : C.m q = some (.var ty1 (vs.map .k))) (hv : vs.length = size) (h1 : ∀ u ∈ vs, u.oneCell' = true) (hlen : ∀ k, k < n → (el k).length = size) (b1 : n + 1 ≤ maxLen) (b2 : (n + 1) * bytes ≤ 140737488355328) :
    StepsC P E ops o C (conS x d (n + 1) size (elN el n vs)) := by
  refine (StepsC.appendCon vs hp hg hop hd hdN hxb hxd hs hx hroom hfree hy hq hv h1 hlen b1 b2).conv rfl rfl fun st i ρ a w hs' => ⟨i, ?_⟩
  have hb := hs'.mem.ok d (.say (sb i.1) (fun w => RdV w i.1 (n + 1) size (elN el n vs))) (by
    show upm st.m _ d = _
    simp [upm, conF, mget])
  have e := slV_of (S := i.2) hb.1
  have e : i.1 = slV (n + 1) i := e
  unfold conF conS
  simp only
  rw [← e]
  exact ⟨rfl, rfl⟩
/-- What is told of all blocks. -/
def allMs (Q : Nat → Blk → Prop) : List (Nat × Blk) → Prop
  | [] => True
  | p :: r => Q p.1 p.2 ∧ allMs Q r
theorem allMs_get {Q : Nat → Blk → Prop} {l : List (Nat × Blk)} (h : allMs Q l) {y : Nat} {b : Blk} (hb : mget l y = some b) : Q y b := by
  induction l with
  | nil => cases hb
  | cons p r ih =>
    obtain ⟨z, c⟩ := p
    unfold mget at hb
    cases e : Nat.beq y z with
    | true => rw [e] at hb; rw [Nat.eq_of_beq_eq_true e]; cases hb; exact h.1
    | false => rw [e] at hb; exact ih h.2 hb
def allRc (Q : Nat → Blk → Prop) : List DR → Prop
  | [] => True
  | r :: l => allMs Q r.ms ∧ allRc Q l
theorem atR_all {Q : Blk → Prop} {D : Nat → Bool} {x : Nat} {recs : List DR} {b0 : Option Blk} (h0 : ∀ b, b0 = some b → Q b) (hr : ∀ r ∈ recs, ∀ b, mget r.ms x = some b → Q b) : ∀ b, atR D (gM x) recs b0 = some b → Q b := by
  induction recs with
  | nil => exact h0
  | cons r l ih =>
    intro b hb
    have hi := ih (fun r' hr' => hr r' (List.mem_cons_of_mem _ hr'))
    simp only [atR] at hb
    split at hb
    · cases hm : mget r.ms x with
      | none => simp only [gM, hm] at hb; exact hi b hb
      | some c =>
        simp only [gM, hm] at hb
        cases hb
        exact hr r List.mem_cons_self _ hm
    · exact hi b hb
theorem allRc_mem {Q : Nat → Blk → Prop} {recs : List DR} (h : allRc Q recs) : ∀ r ∈ recs, allMs Q r.ms := by
  induction recs with
  | nil => intro r hr; cases hr
  | cons q l ih =>
    intro r hr
    cases hr with
    | head => exact h.1
    | tail _ hr => exact ih h.2 r hr
theorem canF_all {Q : Nat → Blk → Prop} {l : List Oper} {cls : List Nat} {X : List (Nat × Nat)} {base : St} {i : Nat} {recs : List DR} (hi : recs.length = i) (hb : ∀ y b, base.m y = some b → Q y b) (hr : allRc Q recs) : ∀ y b, (canF l cls X base i recs).m y = some b → Q y b := by
  intro y b h
  rw [canF_eq hi] at h
  simp only [can] at h
  split at h
  · cases h
  · exact atR_all (fun b => hb y b) (fun r hm b hg => allMs_get (allRc_mem hr r hm) hg) b h
/-- A function that answers with a closure over two boxes. -/
def boxR (u v : Value) (tx ty : TypeId) (lo : Nat) (g : Nat × Nat) (w : World) : Prop := (w.heap[g.1]? = some (.cells #[u] tx (0, 0)) ∧ w.heap[g.2]? = some (.cells #[v] ty (0, 0))) ∧ lo ≤ g.1 ∧ lo ≤ g.2
def boxV (f : FuncId) (g : Nat × Nat) : Value := .func (.func f) #[] #[.pointer (some ⟨g.1, 0, none⟩), .pointer (some ⟨g.2, 0, none⟩)]
def boxS (g : Nat × Nat) (k : Nat) : Prop := k = g.1 ∨ k = g.2
def Box2 (f : FuncId) (u v : Value) (tx ty : TypeId) (lo : Nat) (w w' : World) (e : Ending) : Prop := ∃ g : Nat × Nat, e = .returned (boxV f g) ∧ Below w.heap.size w w' ∧ boxR u v tx ty lo g w' ∧ (∀ k, boxS g k → w.heap.size ≤ k ∧ k < w'.heap.size) ∧ Steady (boxS g) (boxR u v tx ty lo g)
theorem boxR_steady {u v : Value} {tx ty : TypeId} {lo : Nat} {g : Nat × Nat} : Steady (boxS g) (boxR u v tx ty lo g) := fun _ _ h1 _ h => ⟨⟨(h1 g.1 (.inl rfl)).trans h.1.1, (h1 g.2 (.inr rfl)).trans h.1.2⟩, h.2⟩
theorem retBox2 (hT : Tab.fine P T) {w : World} {N : Nat} {fn : Func} {st : St} {f x y lo : Nat} {u v : Value} {tx ty : TypeId} {r : ResultVar} (hr : fn.results.toList = [r]) (h1 : resOne T st r = .v (.c (.fn f [.own x 0, .own y 0]))) (hx : st.m x = some (.var tx [.k u])) (hy : st.m y = some (.var ty [.k v])) (hlo : lo ≤ w.heap.size) :
    retK P ⟨w, [], N, none, []⟩ fn (fun e w' => Box2 f u v tx ty lo w w' e) .ret st := by
  refine ⟨.inl rfl, fun ρ a w' hs => ?_⟩
  obtain ⟨h6, _⟩ := resOne_run hT hs h1
  have k1 := hs.mem.ok x _ hx
  have k2 := hs.mem.ok y _ hy
  have p1 : w.heap.size ≤ (ρ x).1 := by
    rcases hs.mem.ownGe hx trivial with h | h
    · exact h
    · cases h
  have p2 : w.heap.size ≤ (ρ y).1 := by
    rcases hs.mem.ownGe hy trivial with h | h
    · exact h
    · cases h
  have q1 := hs.mem.lt hx trivial
  have q2 := hs.mem.lt hy trivial
  refine ⟨_, results_one hr h6, ((ρ x).1, (ρ y).1), ?_, hs.mem.fr.toBelow, ⟨⟨?_, ?_⟩, by simp only; omega, by simp only; omega⟩, ?_, boxR_steady⟩
  · simp [AV.conc, AC.conc, Cap.conc, boxV, k1.1, k2.1]
  · simpa [AC.conc] using k1.2.2.1
  · simpa [AC.conc] using k2.2.2.1
  · rintro k (rfl | rfl)
    · exact ⟨p1, q1⟩
    · exact ⟨p2, q2⟩
end
end Go.Sx
/- The symbolic executor, part AW: rows whose elements are slices that calls have made: what is told of an element is kept. Generic over P. -/
set_option linter.unusedVariables false
set_option linter.unusedSimpArgs false
namespace Go.Sx
open Go.RowKit
section
variable {P : Program} {E : Env} {K : Exit → St → Prop} {T : Tab}
/-- Something that is true of any world. -/
theorem G.tellF {c : Code} {t : Nat → TV} {m : Mem} (y : Nat) (R : World → Prop) (hR : ∀ w, R w) (hy : m y = none) (k : G P E K c ⟨t, up m y (some (.say (fun _ => False) R))⟩) : G P E K c ⟨t, m⟩ := G.sem fun ρ a w hs =>
  ⟨ρ, _, hs.tell (fun _ => False) R (hR w) (fun k hk => hk.elim) (fun _ w2 _ _ _ => hR w2) (fun b hb => by rw [hy] at hb; cases hb) (fun z c hz hc hk => hk), k⟩
/-- Two things told become one; that it is steady may come from the two. -/
theorem G.bothS {c : Code} {t : Nat → TV} {m : Mem} (y x1 x2 : Nat) {S1 S2 : Nat → Prop} {R1 R2 : World → Prop} (S : Nat → Prop) (R : World → Prop) (h1 : m x1 = some (.say S1 R1)) (h2 : m x2 = some (.say S2 R2)) (hS1 : ∀ k, S k → S1 k ∨ S2 k) (hst : Steady S1 R1 → Steady S2 R2 → Steady S R) (hR : ∀ w, R1 w → R2 w → R w) (hy : ∀ b, m y = some b → ∃ S R, b = .say S R)
    (k : G P E K c ⟨t, up m y (some (.say S R))⟩) : G P E K c ⟨t, m⟩ := G.sem fun ρ a w hs => by
  obtain ⟨a1, a2, a3⟩ := hs.mem.ok _ _ h1
  obtain ⟨b1, b2, b3⟩ := hs.mem.ok _ _ h2
  refine ⟨ρ, _, hs.tell S R (hR w a1 b1) (fun k hk => (hS1 k hk).elim (a2 k) (b2 k)) (hst a3 b3) hy (fun z d hz hd hk => ?_), k⟩
  rcases hS1 _ hk with hk | hk
  · exact hs.mem.ne z x1 d _ hz h1 hd trivial (fun e => by subst e; rw [h1] at hz; cases hz; exact hd) hk
  · exact hs.mem.ne z x2 d _ hz h2 hd trivial (fun e => by subst e; rw [h2] at hz; cases hz; exact hd) hk
/-- An array as a variable of some cells. -/
theorem Steps.allocVar (hT : Tab.fine P T) {ops : Array Oper} {o : Oper} {C : St} {t x sz : Nat} {d : TyD} (hg : o.guard = none) (hop : o.op = .alloc t) (ho : o.dst = some x) (hd : dstOk E.N o.dst = true) (hx : C.m x = none) (hxb : Nat.blt x 1000 = true) (ht : T t = some d) :
    Steps P E ops o C (.v (.c (.ptr x 0 sz 0))) [(x, .var t (d.zero.map .k))] := by
  intro st hle ρ a w hs Kc Q hk
  have hx' : st.m x = none := (hle.n x (by simp [mget])).trans hx
  rw [if_pos (by simp [Region.wanted, hg])]
  refine .inl ?_
  have hm := hs.mem
  have hrun : (execOp a.eval o).run P w = .ok (.value (.pointer (some ⟨w.heap.size, 0, none⟩))) (w.alloc (.cells d.zv.cells t (0, 0))) := by
    simp only [execOp, hop, Instr.alloc, Sem.run_bind, (hT.ok t d ht).zero w, Result.andThen_ok, run_newVar', Sem.run_pure]
  have hz := (hT.ok t d ht).zc
  have hnew := hm.newVar hx' (by simpa [Nat.blt_eq] using hxb) t (cells := d.zero.map .k) (fun c hc => by obtain ⟨v, _, rfl⟩ := List.mem_map.1 hc; trivial)
  have e : d.zero.toArray = d.zv.cells := by rw [← hz]
  rw [map_conc_k, e] at hnew
  refine Snd.go hs (dstOk_lt hd) (tv := .v (.c (.ptr x 0 sz 0))) (Snd.new hx' hnew hrun (ptr_rep_new _ _ _)) fun ρ' a' w' hs'' => hk ρ' a' w' ?_
  rw [upm_one]
  exact hs''
/-- An operation under a guard that may be shut, which leaves the memory as it is. -/
theorem Steps.opGuard (hT : Tab.fine P T) {ops : Array Oper} {o : Oper} {C : St} {j : Nat} {want cb : Bool} {av : AV} {m' : Mem} {obs : List Prop} (hg : o.guard = some (j, want)) (hb : guardB ops C.t j want = some cb) (hob : AllP (stripObs C.t j want cb (slotsOf o.op.operands.toList))) (hd : dstOk E.N o.dst = true)
    (h : evOp T (dx o) (evG C.t j want (slotsOf o.op.operands.toList)) C.m o.op = .ok (.v av) m' obs) (ho : AllP obs) (hms : msOf (evG C.t j want (slotsOf o.op.operands.toList)) (dx o) o.op m' = []) : Steps P E ops o C (.grd j want cb av) [] := by
  cases hcb : cb with
  | true =>
    subst hcb
    have := Steps.opT (P := P) (E := E) hT rfl hg hb hob hd h ho
    rw [hms] at this
    exact this
  | false =>
    subst hcb
    intro st hle ρ a w hs Kc Q hk
    have hs' := hs.weakT hle.t
    have hw := wanted_cond (ops := ops) hs' hg hb
    rw [hw, if_neg (by simp)]
    refine hk ρ _ w ?_
    exact hs.putT (dstOk_lt hd) (tv := .grd j want false av) (v := undef) ⟨fun ht => (by cases ht), fun _ => rfl⟩
/-- make of n elements of one cell each, n not 0. -/
theorem Steps.make1 {ops : Array Oper} {o : Oper} {C : St} {l c : Operand} {t e bytes d : Nat} {z : Value} {kl kc : IntKind} (n : Nat) (hp : ApT P t e 1 bytes z) (hz1 : z.cells = #[z]) (hg : o.guard = none) (hop : o.op = .makeSlice t l c)
    (hd : o.dst = some d) (hdN : Nat.blt d E.N = true) (hdb : Nat.blt d 1000 = true) (hfree : C.m d = none) (hl : evT C.t l = .v (.c (.k (.int kl (n : Int))))) (hc : evT C.t c = .v (.c (.k (.int kc (n : Int))))) (h0 : 0 < n) (b1 : n ≤ maxLen) (b2 : bytes * n ≤ 281474976710656) :
    Steps P E ops o C (.v (.c (.slc d 0 1 n n))) [(d, .arr e 1 n (fun _ => [z]) ((n - n) * 1))] := by
  intro st hle ρ a w hsat Kc Q hk
  have hs' := hsat.weakT hle.t
  obtain ⟨i, hi, hz, hs, hb⟩ := hp.info
  have el : a.eval l = .int kl (n : Int) := by have := hs'.eval l; rw [show (St.mk C.t st.m).ev l = _ from hl] at this; exact this.2
  have ec : a.eval c = .int kc (n : Int) := by have := hs'.eval c; rw [show (St.mk C.t st.m).ev c = _ from hc] at this; exact this.2
  have hfree' : st.m d = none := (hle.n d (by simp [mget])).trans hfree
  obtain ⟨w', hrun, r1, r2⟩ := run_make_full (P := P) w w.heap.size t e i z 1 hp.ht hi hz hs kl kc n (by rw [hb]; exact b2) b1 (Nat.le_refl _)
  have hcells : (madeCells z.cells (n * 1)).toList = flatE (fun _ => [z]) 0 n := by
    rw [hz1, toList_madeCells_one, Nat.mul_one]
    have : ∀ (k i : Nat), flatE (fun _ => [z]) i k = List.replicate k z := by
      intro k
      induction k with
      | zero => intro i; rfl
      | succ k ih => intro i; rw [flatE, ih]; rfl
    exact (this n 0).symm
  rw [hcells] at r1
  rw [if_pos (by simp [Region.wanted, hg])]
  refine .inl ?_
  unfold Oper.wp
  have : (execOp a.eval o).run P w = .ok (.value (.slice (some ⟨w.heap.size, 0, none⟩) n n)) w' := by
    simp [execOp, hop, el, ec, hrun, Result.andThen]
  rw [this]
  obtain ⟨ρ', c', h2, h3, h4, h5⟩ := hsat.mem.newOwn hfree' (by simpa [Nat.blt_eq] using hdb) (el := fun _ => [z]) (fun i hi => rfl) h0 r1 r2
  have hcn : c' = n := by
    have h6 : Value.slice (some ⟨w.heap.size, 0, none⟩) n n = Value.slice (some ⟨(ρ' d).1, (ρ' d).2 + 0 * 1, none⟩) n c' := h5
    injection h6 with _ _ h7
    exact h7.symm
  subst hcn
  refine hk ρ' _ w' ?_
  rw [hd, upm_one]
  refine (hsat.move h4 (fun y hy => isSome_up y hy) h3).put (by simpa [Nat.blt_eq] using hdN) ⟨?_, h5⟩
  show (up st.m d _ d).isSome = true
  rw [up_same]; rfl
/-- A call that answers any value, of which something is told; this may hang on blocks of which it was told before. -/
theorem SatM.told2 {ρ : Val} {m : Mem} {w w' : World} (h : SatM E ρ m w) (hb : Below w.heap.size w w') {x X : Nat} {S S1 : Nat → Prop} {R R1 : World → Prop} (hx : m x = none) (hX : m X = some (.say S1 R1)) (hr : R w') (hs : ∀ k, S k → (w.heap.size ≤ k ∨ S1 k) ∧ k < w'.heap.size) (hst : Steady S R) : SatM E ρ (up m x (some (.say S R))) w' := by
  have h2 := h.below hb
  refine h2.swap h2.fr (Nat.le_refl _) (fun z hz => isSome_up z hz) fun z b hz => ?_
  by_cases e : z = x
  · subst e
    rw [up_same] at hz
    injection hz with hz
    subst hz
    refine .inr (.inl ⟨S, R, rfl, hr, fun k hk => (hs k hk).2, hst, fun z2 c hz2 hc ho hk => ?_⟩)
    rw [up_other _ _ hz2] at hc
    rcases (hs _ hk).1 with h1 | h1
    · have := h.lt hc ho
      omega
    · exact h.ne z2 X c _ hc hX ho trivial (fun e => by subst e; rw [hX] at hc; cases hc; exact ho) h1
  · rw [up_other _ _ e] at hz
    exact .inl ⟨hz, fun _ _ _ => rfl⟩
theorem StepsC.callSayX {ops : Array Oper} {o : Oper} {c : Call} {f : FuncId} {avs : List AV} {caps : List Cap} {C : St} {S1 : Nat → Prop} {R1 : World → Prop} (X x : Nat) (val : Cho → Value) (S : Cho → Nat → Prop) (R : Cho → World → Prop) (hg : o.guard = none) (hop : o.op = .call c) (he : callE C.t c = .mk f avs caps) (hd : dstOk E.N o.dst = true) (hx : C.m x = none) (hX : C.m X = some (.say S1 R1))
    (hcf : ∀ (args : Array Value) (w : World), (callFunc f args).run P w = .ok (.enter f args) w)
    (hc : ∀ m, LeM C.m m → ∀ ρ w, SatM E ρ m w → (∀ v ∈ avs, v.ok ρ m) → Calls P f (avs.map (AV.conc ρ) ++ caps.map (Cap.conc ρ)).toArray w fun e w' => ∃ u, e = .returned (val u) ∧ Below w.heap.size w w' ∧ R u w' ∧ (∀ k, S u k → (w.heap.size ≤ k ∨ S1 k) ∧ k < w'.heap.size) ∧ Steady (S u) (R u)) :
    StepsC P E ops o C (sayF x val S R) := by
  intro st hle _ ρ a w hs Kc Q hk
  have hs' := hs.weakT hle.t
  obtain ⟨hr, hok, hok2⟩ := call_run hs' hop he hcf
  rw [if_pos (by simp [Region.wanted, hg])]
  refine .inl ?_
  unfold Oper.wp
  rw [hr]
  refine (hc st.m hle.m ρ w hs.mem hok).mono ?_
  rintro e w' ⟨u, rfl, hb, hR, hS, hst⟩
  refine hk u ρ _ w' ?_
  have hx' : st.m x = none := (hle.n x (nmM_mem (by simp [sayF]))).trans hx
  have hX' : st.m X = some (.say S1 R1) := by
    rcases hle.m X with h | h
    · rw [hX] at h; cases h
    · exact h.trans hX
  have e : upm st.m ((sayF x val S R).ms u) = up st.m x (some (.say (S u) (R u))) := upm_one _ _ _
  rw [e]
  exact ((hs.below hb).remem0 (hs.mem.told2 hb hx' hX' hR hS hst) (fun z hz => isSome_up z hz)).putT (dstOk_lt hd) (toTV_rep _ _ _)
theorem GO.callSayX {ι : Type} {ops : Array Oper} {rest : List Oper} {o : Oper} {c : Call} {f : FuncId} {avs : List AV} {caps : List Cap} {t : Nat → TV} {m : Mem} {S1 : Nat → Prop} {R1 : World → Prop} (X x : Nat) (val : ι → Value) (S : ι → Nat → Prop) (R : ι → World → Prop) (hg : o.guard = none) (hop : o.op = .call c) (he : callE t c = .mk f avs caps) (hd : dstOk E.N o.dst = true) (hx : m x = none) (hX : m X = some (.say S1 R1))
    (hcf : ∀ (args : Array Value) (w : World), (callFunc f args).run P w = .ok (.enter f args) w)
    (hc : ∀ ρ w, SatM E ρ m w → (∀ v ∈ avs, v.ok ρ m) → Calls P f (avs.map (AV.conc ρ) ++ caps.map (Cap.conc ρ)).toArray w fun e w' => ∃ i, e = .returned (val i) ∧ Below w.heap.size w w' ∧ R i w' ∧ (∀ k, S i k → (w.heap.size ≤ k ∨ S1 k) ∧ k < w'.heap.size) ∧ Steady (S i) (R i))
    (k : ∀ i, GO P E ops K rest ⟨Sx.putT t o.dst (toTV (val i)), up m x (some (.say (S i) (R i)))⟩) : GO P E ops K (o :: rest) ⟨t, m⟩ := by
  refine GO.call hg hop he hcf (fun ρ a w hs hok _ => (hc ρ w hs.mem hok).mono ?_)
  rintro e w' ⟨i, rfl, hb, hr, hk, hst⟩
  exact ⟨_, ρ, _, rfl, ((hs.below hb).remem0 (hs.mem.told2 hb hx hX hr hk hst) (fun z hz => isSome_up z hz)).putT (dstOk_lt hd) (toTV_rep _ _ _), k i⟩
/-- A choice in a region without an order to draw. -/
theorem GO.choice {ops : Array Oper} {rest : List Oper} {o : Oper} {st : St} {F : Fam} (h : StepsC P E ops o st F) (k : ∀ u, GO P E ops K rest ⟨Sx.putT st.t o.dst (F.tv u), upm st.m (F.ms u)⟩) : GO P E ops K (o :: rest) st := by
  intro ρ a w hs
  have := h st (Le.refl _ _ _) (fun _ => rfl) ρ a w hs (wpL P ops (QK E K) rest) (QK E K) fun u ρ' a' w' hs' => k u ρ' a' w' hs'
  unfold wpL
  split
  · rename_i hw
    rw [if_pos hw] at this
    exact this
  · rename_i hw
    rw [if_neg hw] at this
    exact this
/-- The parts of a round. -/
theorem assign_wp {l : Nat} (h0 : E.rnd = some l) {c : Code} {st st' : St} {ρ : Val} {a : Act} {w : World} (hs : Sat E ρ st a w) (hn : nd c = true) (h : G P E (fun e s => e = .normal ∧ St.le E st' s) c st) : c.wpIn (fenR (some l)) 6 P (fun e a₁ w₁ => e = .normal ∧ ∃ ρ, Sat E ρ st' a₁ w₁) a w := by
  have h1 := h (fun _ => hn) ρ a w hs
  rw [h0] at h1
  refine wpIn_mono h1 ?_
  rintro e a' w' ⟨ρ', s, hs', rfl, hl⟩
  exact ⟨rfl, ρ', hl _ _ _ hs'⟩
theorem body_wp {l : Nat} (h0 : E.rnd = some l) {c : Code} {st : St} {ρ : Val} {a : Act} {w : World} {Q : Exit → Act → World → Prop} (hs : Sat E ρ st a w) (hn : nd c = true) (h : G P E K c st) (hQ : ∀ e ρ s a w, Sat E ρ s a w → K e s → Q e a w) : c.wpIn (fenR (some l)) 6 P Q a w := by
  have h1 := h (fun _ => hn) ρ a w hs
  rw [h0] at h1
  refine wpIn_mono h1 ?_
  rintro e a' w' ⟨ρ', s, hs', hk⟩
  exact hQ e ρ' s a' w' hs' hk
theorem raw_wp (h0 : E.rnd = none) {c : Code} {st : St} {ρ : Val} {a : Act} {w : World} {Q : Exit → Act → World → Prop} (hs : Sat E ρ st a w) (h : G P E K c st) (hQ : ∀ e ρ s a w, Sat E ρ s a w → K e s → Q e a w) : c.wpIn (fenR none) 6 P Q a w := by
  have h1 := h (fun hr => by rw [h0] at hr; cases hr) ρ a w hs
  rw [h0] at h1
  refine wpIn_mono h1 ?_
  rintro e a' w' ⟨ρ', s, hs', hk⟩
  exact hQ e ρ' s a' w' hs' hk
/-- A constant pointer at a block that we may turn. -/
theorem Sat.toPtr {ρ : Val} {st : St} {a : Act} {w : World} (hs : Sat E ρ st a w) {d g : Nat} (x : Nat) (h : st.t d = .v (.c (.k (.pointer (some ⟨g, 0, none⟩))))) (hb : (x, g) ∈ E.bor) (hx : (st.m x).isSome = true) : Sat E ρ ⟨up st.t d (.v (.c (.ptr x 0 0 0))), st.m⟩ a w := by
  obtain ⟨t, m⟩ := st
  refine hs.remem hs.mem (fun z hz => hz) ?_
  have h1 := hs.tm d
  rw [h] at h1
  have h2 := (hs.mem.bo _ hb).1
  simp only at h2
  refine ⟨hx, h1.2.trans ?_⟩
  simp [AV.conc, AC.conc, h2]
/-- A row that grows, as a value. -/
theorem SatM.accRow {ρ : Val} {m : Mem} {w : World} (h : SatM E ρ m w) {x n sz c : Nat} {e : TypeId} {el : Nat → List Value} (hx : m x = some (accB e sz n c el)) : ∃ A, AC.conc ρ (accV x sz n c) = .slice A n (accC n c) ∧ RdRow w A n sz el := by
  cases n with
  | zero => exact ⟨none, rfl, RdRow.nil _ _ _ _⟩
  | succ n =>
    have h1 := h.ok x _ hx
    have := h.rdArr hx 0 (n + 1) (by omega)
    simp only [Nat.zero_mul, Nat.add_zero, Nat.zero_add, h1.1] at this
    exact ⟨some ⟨(ρ x).1, 0, none⟩, by simp [accV, accC, AC.conc, h1.1], this⟩
theorem calm_accB {L : List Nat} {e : TypeId} {sz n c : Nat} {el : Nat → List Value} : Blk.calm L 0 (accB e sz n c el) := by
  cases n <;> first
    | rfl
    | trivial
theorem mget_snoc {l : List (Nat × Blk)} {d : Nat} {b : Blk} {y : Nat} : mget (l ++ [(d, b)]) y = match mget l y with
  | some c => some c
  | none => bif Nat.beq y d then some b else none := by
  induction l with
  | nil => rfl
  | cons p r ih =>
    obtain ⟨z, c⟩ := p
    simp only [List.cons_append, mget]
    cases Nat.beq y z with
    | true => rfl
    | false => exact ih
theorem upm_app {m : Mem} {l : List (Nat × Blk)} {d : Nat} {b : Blk} (h : mget l d = none) : upm m (l ++ [(d, b)]) = up (upm m l) d (some b) := by
  funext y
  simp only [upm, mget_snoc]
  by_cases e : y = d
  · subst e
    rw [h, up_same]
    simp
  · rw [up_other _ _ e]
    have : Nat.beq y d = false := nbeq e
    cases hl : mget l y with
    | none => simp [this, upm, hl]
    | some c => simp [upm, hl]
/-- What a block tells is told once more, by another name. -/
theorem StepsC.also {ops : Array Oper} {o : Oper} {C : St} {F F' : Fam} {S : Nat → Prop} {R : World → Prop} (X d2 : Nat) (h : StepsC P E ops o C F) (hf1 : F.full = false) (hf : F'.full = false) (hn : F'.nm = F.nm ++ [d2]) (hdn : ∀ i, mget (F.ms i) d2 = none) (hC : C.m X = some (.say S R)) (hfree : C.m d2 = none) (hXn : ∀ i, mget (F.ms i) X = none)
    (hF : ∀ i, ∃ i' S' R', F'.tv i' = F.tv i ∧ F'.ms i' = F.ms i ++ [(d2, .say S' R')] ∧ (∀ k, S' k → S k) ∧ (∀ w, R w → R' w) ∧ Steady S' R') : StepsC P E ops o C F' := by
  intro st hle hfull ρ a w hs Kc Q hk
  have hX : st.m X = some (.say S R) := by
    rcases hle.m X with h | h
    · rw [hC] at h; cases h
    · exact h.trans hC
  refine h st ⟨hle.t, hle.m, hle.d, fun y hy => hle.n y ?_⟩ (fun e => by rw [hf1] at e; cases e) ρ a w hs Kc Q fun i ρ' a' w' hs' => ?_
  · have := nmM_some hy
    refine nmM_mem ?_
    rw [hn]
    exact List.mem_append_left _ this
  obtain ⟨i', S', R', e1, e2, e3, e4, e5⟩ := hF i
  refine hk i' ρ' a' w' ?_
  rw [e1, e2, upm_app (hdn i)]
  have hX' : upm st.m (F.ms i) X = some (.say S R) := by
    simp only [upm, hXn i]
    exact hX
  obtain ⟨q1, q2, q3⟩ := hs'.mem.ok X _ hX'
  refine hs'.tell S' R' (e4 _ q1) (fun k hk => q2 k (e3 k hk)) e5 (fun b hb => ?_) (fun z c hz hc hk => ?_)
  · have e : upm st.m (F.ms i) d2 = st.m d2 := by simp only [upm, hdn i]
    rw [e] at hb
    have : st.m d2 = none := (hle.n d2 (nmM_mem (by rw [hn]; simp))).trans hfree
    rw [this] at hb
    cases hb
  · have hzX : z ≠ X := fun e => by subst e; rw [hX'] at hz; cases hz; exact hc
    exact hs'.mem.ne z X c _ hz hX' hc trivial hzX (e3 _ hk)
def pr1 (u : Cho) : Cho := ((match u.1 with
  | .agg cs => cs.getD 0 undef
  | v => v), u.2)
def pr2 (u : Cho) : Cho := ((match u.1 with
  | .agg cs => cs.getD 1 undef
  | v => v), u.2)
/-- A row grows by a slice (of n1 elements of size s1) that a call has made. -/
def accS (x d d2 n sz : Nat) (e : TypeId) (el : Nat → List Value) (n1 s1 : Nat) (el1 : Nat → List Value) : Fam :=
  ⟨fun u => .v (.c (.slc d 0 sz (n + 1) (capN (n + 1) (pr1 u)))), fun u => [(d, .arr e sz (n + 1) (elN el n [slV n1 (pr2 u)]) ((capN (n + 1) (pr1 u) - (n + 1)) * sz)), (x, .ro 0 0 fun _ => []), (d2, .say (sb (slV n1 (pr2 u))) (fun w => RdV w (slV n1 (pr2 u)) n1 s1 el1))], [d, x, d2], false⟩
theorem accS_nm {x d d2 n sz : Nat} {e : TypeId} {el : Nat → List Value} {n1 s1 : Nat} {el1 : Nat → List Value} : ∀ u y, (mget ((accS x d d2 n sz e el n1 s1 el1).ms u) y).isSome = true → y ∈ (accS x d d2 n sz e el n1 s1 el1).nm := by
  intro u y h
  simp only [accS, mget] at h ⊢
  cases hb : Nat.beq y d with
  | true => rw [Nat.eq_of_beq_eq_true hb]; simp
  | false =>
    rw [hb] at h
    cases hb : Nat.beq y x with
    | true => rw [Nat.eq_of_beq_eq_true hb]; simp
    | false =>
      rw [hb] at h
      cases hb : Nat.beq y d2 with
      | true => rw [Nat.eq_of_beq_eq_true hb]; simp
      | false => rw [hb] at h; cases h
theorem StepsC.appendAccS {ops : Array Oper} {o : Oper} {s y : Operand} {t e size bytes d x n c q c1 n1 s1 : Nat} {z : Value} {C : St} {el el1 : Nat → List Value} {ty1 : TypeId} (X d2 : Nat) (u0 : Cho) (hp : ApT P t e size bytes z) (hg : o.guard = none) (hop : o.op = .call { callee := .builtin .append, args := #[s, y], argTypes := #[t, t] })
    (hd : o.dst = some d) (hdN : Nat.blt d E.N = true) (hdb : Nat.blt d 1000 = true) (hxb : Nat.blt x 1000 = true) (hxd : Nat.beq x d = false) (hs : evT C.t s = .v (.c (accV x size n c))) (hx : C.m x = some (accB e size n c el)) (hfree : C.m d = none)
    (hy : evT C.t y = .v (.c (.slc q 0 size 1 c1))) (hq : C.m q = some (.var ty1 [.k (slV n1 u0)])) (hv : 1 = size) (hlen : ∀ k, k < n → (el k).length = size) (b1 : n + 1 ≤ maxLen) (b2 : (n + 1) * bytes ≤ 140737488355328)
    (hX : C.m X = some (.say (sb (slV n1 u0)) (fun w => RdV w (slV n1 u0) n1 s1 el1))) (hfree2 : C.m d2 = none) (h2d : Nat.beq d2 d = false) (h2x : Nat.beq d2 x = false) (hXd : Nat.beq X d = false) (hXx : Nat.beq X x = false) :
    StepsC P E ops o C (accS x d d2 n size e el n1 s1 el1) := by
  refine StepsC.also X d2 (StepsC.appendAcc [slV n1 u0] hp hg hop hd hdN hdb hxb hxd hs hx hfree hy hq hv (fun u hu => by simp at hu; subst hu; rfl) hlen b1 b2) rfl rfl rfl (fun i => ?_) hX hfree2 (fun i => ?_) fun i => ?_
  · simp [accF, mget, h2d, h2x]
  · simp [accF, mget, hXd, hXx]
  · refine ⟨(.agg #[i.1, u0.1], i.2), _, _, rfl, rfl, fun k hk => hk, fun w hw => hw, steady_rdv⟩
theorem rdNew_sb {w w' : World} {A : Option Addr} {n sz c : Nat} {el : Nat → List Value} (h : RdNew w w' A n sz el) : ∀ k, sb (.slice A n c) k → w.heap.size ≤ k ∧ k < w'.heap.size := by
  rintro k ⟨h0, a, e, rfl⟩
  obtain ⟨b, o, e2, h1, h2, _⟩ := h h0
  rw [e2] at e
  cases e
  exact ⟨h1, h2⟩
/-- An answer that is a struct of a row and a value. -/
theorem Ans.rat {w w' : World} {n sz : Nat} {el : Nat → List Value} {v : Value} {e : Ending} (h : Ans w w' [.agg [.r n sz el, .p v]] e) : ∃ A c, e = .returned (.agg #[.slice A n c, v]) ∧ n ≤ c ∧ RdNew w w' A n sz el := by
  obtain ⟨cs, h1, rfl⟩ := h
  match cs, h1 with
  | [u1, u2], ⟨⟨A, c, e1, h2, _, h3⟩, e2, _⟩ =>
    subst e1
    have e2 : u2 = v := e2
    subst e2
    exact ⟨A, c, rfl, h2, h3⟩
  | [], h => exact h.elim
  | [_], h => exact h.2.elim
  | _ :: _ :: _ :: _, h => exact h.2.2.elim
/-- An answer that is a row. -/
theorem Ans.row {w w' : World} {n sz : Nat} {el : Nat → List Value} {e : Ending} (h : Ans w w' [.c (.r n sz el)] e) : ∃ A c, e = .returned (.slice A n c) ∧ n ≤ c ∧ RdNew w w' A n sz el := by
  obtain ⟨cs, h1, rfl⟩ := h
  match cs, h1 with
  | [u1], ⟨⟨A, c, e1, h2, _, h3⟩, _⟩ =>
    subst e1
    exact ⟨A, c, rfl, h2, h3⟩
  | [], h => exact h.elim
  | _ :: _ :: _, h => exact h.2.elim
theorem slV_eq {A : Option Addr} {n c : Nat} {S : Nat → Prop} (h : n ≤ c) : slV n (.slice A n c, S) = .slice A n c := by
  simp [slV, adrK, capN, capC, Nat.max_eq_left h]
theorem sayG_nm {x j : Nat} {want cb : Bool} {val : Cho → AV} {S : Cho → Nat → Prop} {R : Cho → World → Prop} : ∀ u y, (mget ((sayG x j want cb val S R).ms u) y).isSome = true → y ∈ (sayG x j want cb val S R).nm := by
  intro u y h
  simp only [sayG, mget] at h ⊢
  cases hb : Nat.beq y x with
  | true => rw [Nat.eq_of_beq_eq_true hb]; simp
  | false => rw [hb] at h; cases h
theorem yieldGF_nm {α : Type} {B : Nat → Prop} {xJ j : Nat} {want cb : Bool} {J : List α → (Nat → Prop) → World → Prop} {s' : List α} : ∀ u y, (mget ((yieldGF B xJ j want cb J s').ms u) y).isSome = true → y ∈ (yieldGF B xJ j want cb J s').nm := by
  intro u y h
  simp only [yieldGF, mget] at h ⊢
  cases hb : Nat.beq y xJ with
  | true => rw [Nat.eq_of_beq_eq_true hb]; simp
  | false => rw [hb] at h; cases h
end
end Go.Sx
/- The symbolic executor, part AX: rows whose elements begin with a slice that a call has made, with further cells. Generic over P. -/
set_option linter.unusedVariables false
set_option linter.unusedSimpArgs false
namespace Go.Sx
open Go.RowKit
section
variable {P : Program} {E : Env} {K : Exit → St → Prop} {T : Tab}
end
end Go.Sx
/- The table of the types of this seat, as the symbolic executor takes it, with its proof. -/
set_option maxRecDepth 1000000
namespace Go.Proofs.Ytafhnfcahhlanaa
open Go.Sx

def z1 : List Value := [.nilFunc]
def z2 : List Value := [.int .i64 0]
def z3 : List Value := [.int .i64 0]
def z4 : List Value := [.bool false]
def z5 : List Value := [.int .u8 0]
def z6 : List Value := [.int .u8 0]
def z16 : List Value := [.pointer none]
def z22 : List Value := [.slice none 0 0]
def z100 : List Value := (List.replicate 2 (z22)).flatten
def z129 : List Value := (List.replicate 0 (z16)).flatten
def d1 : TyD := ⟨.other, 1, [.nilFunc]⟩
def d2 : TyD := ⟨.int .i64, 1, [.int .i64 0]⟩
def d3 : TyD := ⟨.int .i64, 1, [.int .i64 0]⟩
def d4 : TyD := ⟨.bool, 1, [.bool false]⟩
def d5 : TyD := ⟨.int .u8, 1, [.int .u8 0]⟩
def d6 : TyD := ⟨.int .u8, 1, [.int .u8 0]⟩
def d7 : TyD := ⟨.struct [(0, 2), (1, 3), (2, 4), (3, 6)], 4, [.int .i64 0, .int .i64 0, .bool false, .int .u8 0]⟩
def d8 : TyD := ⟨.struct [(0, 2), (1, 3), (2, 4), (3, 6)], 4, [.int .i64 0, .int .i64 0, .bool false, .int .u8 0]⟩
def d9 : TyD := ⟨.str, 1, [.string ⟨#[]⟩]⟩
def d10 : TyD := ⟨.str, 1, [.string ⟨#[]⟩]⟩
def d11 : TyD := ⟨.str, 1, [.string ⟨#[]⟩]⟩
def d12 : TyD := ⟨.int .u64, 1, [.int .u64 0]⟩
def d13 : TyD := ⟨.struct [(0, 9), (1, 12)], 2, [.string ⟨#[]⟩, .int .u64 0]⟩
def d14 : TyD := ⟨.struct [(0, 9), (1, 12)], 2, [.string ⟨#[]⟩, .int .u64 0]⟩
def d15 : TyD := ⟨.other, 1, [.pointer none]⟩
def d16 : TyD := ⟨.other, 1, [.pointer none]⟩
def d17 : TyD := ⟨.other, 1, [.pointer none]⟩
def d18 : TyD := ⟨.struct [(0, 17)], 1, [.pointer none]⟩
def d19 : TyD := ⟨.struct [(0, 17)], 1, [.pointer none]⟩
def d20 : TyD := ⟨.other, 1, [.nilIface]⟩
def d21 : TyD := ⟨.int .i32, 1, [.int .i32 0]⟩
def d22 : TyD := ⟨.slice 3, 1, [.slice none 0 0]⟩
def d23 : TyD := ⟨.slice 22, 1, [.slice none 0 0]⟩
def d24 : TyD := ⟨.struct [(0, 22), (1, 23), (2, 22)], 3, [.slice none 0 0, .slice none 0 0, .slice none 0 0]⟩
def d25 : TyD := ⟨.struct [(0, 22), (1, 23), (2, 22)], 3, [.slice none 0 0, .slice none 0 0, .slice none 0 0]⟩
def d26 : TyD := ⟨.other, 1, [.nilFunc]⟩
def d27 : TyD := ⟨.other, 1, [.nilFunc]⟩
def d28 : TyD := ⟨.struct [(0, 22), (1, 3)], 2, [.slice none 0 0, .int .i64 0]⟩
def d29 : TyD := ⟨.struct [(0, 22), (1, 3)], 2, [.slice none 0 0, .int .i64 0]⟩
def d30 : TyD := ⟨.struct [(0, 3), (1, 29), (3, 29), (5, 22)], 6, [.int .i64 0, .slice none 0 0, .int .i64 0, .slice none 0 0, .int .i64 0, .slice none 0 0]⟩
def d31 : TyD := ⟨.struct [(0, 3), (1, 29), (3, 29), (5, 22)], 6, [.int .i64 0, .slice none 0 0, .int .i64 0, .slice none 0 0, .int .i64 0, .slice none 0 0]⟩
def d32 : TyD := ⟨.int .i64, 1, [.int .i64 0]⟩
def d34 : TyD := ⟨.other, 1, [.nilFunc]⟩
def d35 : TyD := ⟨.other, 1, [.nilFunc]⟩
def d36 : TyD := ⟨.other, 1, [.nilFunc]⟩
def d37 : TyD := ⟨.other, 1, [.nilFunc]⟩
def d38 : TyD := ⟨.other, 1, [.nilFunc]⟩
def d39 : TyD := ⟨.other, 1, [.nilFunc]⟩
def d41 : TyD := ⟨.other, 1, [.nilFunc]⟩
def d42 : TyD := ⟨.other, 1, [.nilFunc]⟩
def d43 : TyD := ⟨.other, 1, [.nilFunc]⟩
def d44 : TyD := ⟨.other, 1, [.nilFunc]⟩
def d46 : TyD := ⟨.other, 1, [.nilFunc]⟩
def d47 : TyD := ⟨.other, 1, [.nilFunc]⟩
def d48 : TyD := ⟨.other, 1, [.nilFunc]⟩
def d49 : TyD := ⟨.other, 1, [.nilFunc]⟩
def d50 : TyD := ⟨.other, 1, [.nilFunc]⟩
def d51 : TyD := ⟨.other, 1, [.nilFunc]⟩
def d52 : TyD := ⟨.other, 1, [.nilFunc]⟩
def d53 : TyD := ⟨.other, 1, [.nilFunc]⟩
def d55 : TyD := ⟨.other, 1, [.nilFunc]⟩
def d56 : TyD := ⟨.other, 1, [.nilFunc]⟩
def d57 : TyD := ⟨.other, 1, [.nilFunc]⟩
def d58 : TyD := ⟨.other, 1, [.nilFunc]⟩
def d59 : TyD := ⟨.slice 95, 1, [.slice none 0 0]⟩
def d60 : TyD := ⟨.other, 1, [.nilFunc]⟩
def d62 : TyD := ⟨.other, 1, [.nilFunc]⟩
def d63 : TyD := ⟨.other, 1, [.nilFunc]⟩
def d64 : TyD := ⟨.other, 1, [.nilFunc]⟩
def d65 : TyD := ⟨.other, 1, [.nilFunc]⟩
def d66 : TyD := ⟨.other, 1, [.nilFunc]⟩
def d67 : TyD := ⟨.other, 1, [.nilFunc]⟩
def d68 : TyD := ⟨.slice 29, 1, [.slice none 0 0]⟩
def d69 : TyD := ⟨.other, 1, [.nilFunc]⟩
def d70 : TyD := ⟨.slice 106, 1, [.slice none 0 0]⟩
def d71 : TyD := ⟨.other, 1, [.nilFunc]⟩
def d72 : TyD := ⟨.other, 1, [.nilFunc]⟩
def d73 : TyD := ⟨.other, 1, [.nilFunc]⟩
def d74 : TyD := ⟨.other, 1, [.nilFunc]⟩
def d75 : TyD := ⟨.other, 1, [.nilFunc]⟩
def d76 : TyD := ⟨.other, 1, [.nilFunc]⟩
def d77 : TyD := ⟨.other, 1, [.nilFunc]⟩
def d78 : TyD := ⟨.other, 1, [.nilFunc]⟩
def d79 : TyD := ⟨.other, 1, [.nilFunc]⟩
def d80 : TyD := ⟨.other, 1, [.nilFunc]⟩
def d81 : TyD := ⟨.other, 1, [.nilFunc]⟩
def d82 : TyD := ⟨.other, 1, [.nilFunc]⟩
def d83 : TyD := ⟨.other, 1, [.nilFunc]⟩
def d84 : TyD := ⟨.other, 1, [.nilFunc]⟩
def d85 : TyD := ⟨.other, 1, [.nilFunc]⟩
def d86 : TyD := ⟨.int .u64, 1, [.int .u64 0]⟩
def d87 : TyD := ⟨.struct [(0, 86), (1, 86)], 2, [.int .u64 0, .int .u64 0]⟩
def d88 : TyD := ⟨.struct [(0, 86), (1, 86)], 2, [.int .u64 0, .int .u64 0]⟩
def d89 : TyD := ⟨.other, 1, [.nilFunc]⟩
def d90 : TyD := ⟨.other, 1, [.nilFunc]⟩
def d91 : TyD := ⟨.other, 1, [.nilFunc]⟩
def d92 : TyD := ⟨.other, 1, [.nilFunc]⟩
def d93 : TyD := ⟨.other, 1, [.nilFunc]⟩
def d94 : TyD := ⟨.struct [(0, 22), (1, 3)], 2, [.slice none 0 0, .int .i64 0]⟩
def d95 : TyD := ⟨.struct [(0, 22), (1, 3)], 2, [.slice none 0 0, .int .i64 0]⟩
def d96 : TyD := ⟨.other, 1, [.nilFunc]⟩
def d97 : TyD := ⟨.other, 1, [.nilFunc]⟩
def d98 : TyD := ⟨.other, 1, [.nilFunc]⟩
def d99 : TyD := ⟨.other, 1, [.nilFunc]⟩
def d100 : TyD := ⟨.array 2 22, 2, z100⟩
def d101 : TyD := ⟨.other, 1, [.nilFunc]⟩
def d102 : TyD := ⟨.other, 1, [.nilFunc]⟩
def d103 : TyD := ⟨.other, 1, [.nilFunc]⟩
def d104 : TyD := ⟨.other, 1, [.nilFunc]⟩
def d105 : TyD := ⟨.struct [(0, 22), (1, 3)], 2, [.slice none 0 0, .int .i64 0]⟩
def d106 : TyD := ⟨.struct [(0, 22), (1, 3)], 2, [.slice none 0 0, .int .i64 0]⟩
def d107 : TyD := ⟨.other, 1, [.nilFunc]⟩
def d108 : TyD := ⟨.other, 1, [.nilFunc]⟩
def d109 : TyD := ⟨.other, 1, [.nilFunc]⟩
def d110 : TyD := ⟨.other, 1, [.nilFunc]⟩
def d111 : TyD := ⟨.int .u64, 1, [.int .u64 0]⟩
def d113 : TyD := ⟨.other, 1, [.nilFunc]⟩
def d114 : TyD := ⟨.other, 1, [.nilFunc]⟩
def d115 : TyD := ⟨.slice 86, 1, [.slice none 0 0]⟩
def d116 : TyD := ⟨.other, 1, [.nilFunc]⟩
def d117 : TyD := ⟨.other, 1, [.nilFunc]⟩
def d118 : TyD := ⟨.other, 1, [.nilFunc]⟩
def d119 : TyD := ⟨.other, 1, [.nilFunc]⟩
def d120 : TyD := ⟨.other, 1, [.nilFunc]⟩
def d121 : TyD := ⟨.other, 1, [.nilFunc]⟩
def d122 : TyD := ⟨.int .u32, 1, [.int .u32 0]⟩
def d123 : TyD := ⟨.other, 1, [.nilFunc]⟩
def d124 : TyD := ⟨.other, 1, [.nilFunc]⟩
def d125 : TyD := ⟨.other, 1, [.nilFunc]⟩
def d126 : TyD := ⟨.other, 1, [.nilFunc]⟩
def d127 : TyD := ⟨.struct [(0, 17), (1, 17), (2, 17), (3, 9)], 4, [.pointer none, .pointer none, .pointer none, .string ⟨#[]⟩]⟩
def d128 : TyD := ⟨.struct [(0, 17), (1, 17), (2, 17), (3, 9)], 4, [.pointer none, .pointer none, .pointer none, .string ⟨#[]⟩]⟩
def d129 : TyD := ⟨.array 0 16, 0, z129⟩
def d132 : TyD := ⟨.other, 1, [.nilFunc]⟩
def d133 : TyD := ⟨.int .u8, 1, [.int .u8 0]⟩
def d134 : TyD := ⟨.int .u8, 1, [.int .u8 0]⟩
def d135 : TyD := ⟨.other, 1, [.nilFunc]⟩
def d136 : TyD := ⟨.other, 1, [.pointer none]⟩
def d137 : TyD := ⟨.int .i32, 1, [.int .i32 0]⟩
def d138 : TyD := ⟨.int .i32, 1, [.int .i32 0]⟩
def d139 : TyD := ⟨.struct [(0, 12), (1, 12), (2, 122), (3, 133), (4, 5), (5, 5), (6, 134), (7, 135), (8, 136), (9, 137), (10, 138)], 11, [.int .u64 0, .int .u64 0, .int .u32 0, .int .u8 0, .int .u8 0, .int .u8 0, .int .u8 0, .nilFunc, .pointer none, .int .i32 0, .int .i32 0]⟩
def d140 : TyD := ⟨.struct [(0, 12), (1, 12), (2, 122), (3, 133), (4, 5), (5, 5), (6, 134), (7, 135), (8, 136), (9, 137), (10, 138)], 11, [.int .u64 0, .int .u64 0, .int .u32 0, .int .u8 0, .int .u8 0, .int .u8 0, .int .u8 0, .nilFunc, .pointer none, .int .i32 0, .int .i32 0]⟩
def TT : Tab
  | 1 => some d1
  | 2 => some d2
  | 3 => some d3
  | 4 => some d4
  | 5 => some d5
  | 6 => some d6
  | 7 => some d7
  | 8 => some d8
  | 9 => some d9
  | 10 => some d10
  | 11 => some d11
  | 12 => some d12
  | 13 => some d13
  | 14 => some d14
  | 15 => some d15
  | 16 => some d16
  | 17 => some d17
  | 18 => some d18
  | 19 => some d19
  | 20 => some d20
  | 21 => some d21
  | 22 => some d22
  | 23 => some d23
  | 24 => some d24
  | 25 => some d25
  | 26 => some d26
  | 27 => some d27
  | 28 => some d28
  | 29 => some d29
  | 30 => some d30
  | 31 => some d31
  | 32 => some d32
  | 34 => some d34
  | 35 => some d35
  | 36 => some d36
  | 37 => some d37
  | 38 => some d38
  | 39 => some d39
  | 41 => some d41
  | 42 => some d42
  | 43 => some d43
  | 44 => some d44
  | 46 => some d46
  | 47 => some d47
  | 48 => some d48
  | 49 => some d49
  | 50 => some d50
  | 51 => some d51
  | 52 => some d52
  | 53 => some d53
  | 55 => some d55
  | 56 => some d56
  | 57 => some d57
  | 58 => some d58
  | 59 => some d59
  | 60 => some d60
  | 62 => some d62
  | 63 => some d63
  | 64 => some d64
  | 65 => some d65
  | 66 => some d66
  | 67 => some d67
  | 68 => some d68
  | 69 => some d69
  | 70 => some d70
  | 71 => some d71
  | 72 => some d72
  | 73 => some d73
  | 74 => some d74
  | 75 => some d75
  | 76 => some d76
  | 77 => some d77
  | 78 => some d78
  | 79 => some d79
  | 80 => some d80
  | 81 => some d81
  | 82 => some d82
  | 83 => some d83
  | 84 => some d84
  | 85 => some d85
  | 86 => some d86
  | 87 => some d87
  | 88 => some d88
  | 89 => some d89
  | 90 => some d90
  | 91 => some d91
  | 92 => some d92
  | 93 => some d93
  | 94 => some d94
  | 95 => some d95
  | 96 => some d96
  | 97 => some d97
  | 98 => some d98
  | 99 => some d99
  | 100 => some d100
  | 101 => some d101
  | 102 => some d102
  | 103 => some d103
  | 104 => some d104
  | 105 => some d105
  | 106 => some d106
  | 107 => some d107
  | 108 => some d108
  | 109 => some d109
  | 110 => some d110
  | 111 => some d111
  | 113 => some d113
  | 114 => some d114
  | 115 => some d115
  | 116 => some d116
  | 117 => some d117
  | 118 => some d118
  | 119 => some d119
  | 120 => some d120
  | 121 => some d121
  | 122 => some d122
  | 123 => some d123
  | 124 => some d124
  | 125 => some d125
  | 126 => some d126
  | 127 => some d127
  | 128 => some d128
  | 129 => some d129
  | 132 => some d132
  | 133 => some d133
  | 134 => some d134
  | 135 => some d135
  | 136 => some d136
  | 137 => some d137
  | 138 => some d138
  | 139 => some d139
  | 140 => some d140
  | _ => none
theorem ty1 : TyOK Try.prog 1 d1 := ⟨fun w => Try.sizeOf1 w, fun w => Try.isAgg1 w, fun w => Try.zeroValue1 w, rfl, (fun h => by first | rfl | cases h), rfl, trivial⟩
theorem ty2 : TyOK Try.prog 2 d2 := ⟨fun w => Try.sizeOf2 w, fun w => Try.isAgg2 w, fun w => Try.zeroValue2 w, rfl, (fun h => by first | rfl | cases h), rfl, fun w => Try.runUnderlying2 w⟩
theorem ty3 : TyOK Try.prog 3 d3 := ⟨fun w => Try.sizeOf3 w, fun w => Try.isAgg3 w, fun w => Try.zeroValue3 w, rfl, (fun h => by first | rfl | cases h), rfl, fun w => Try.runUnderlying3 w⟩
theorem ty4 : TyOK Try.prog 4 d4 := ⟨fun w => Try.sizeOf4 w, fun w => Try.isAgg4 w, fun w => Try.zeroValue4 w, rfl, (fun h => by first | rfl | cases h), rfl, fun w => Try.runUnderlying4 w⟩
theorem ty5 : TyOK Try.prog 5 d5 := ⟨fun w => Try.sizeOf5 w, fun w => Try.isAgg5 w, fun w => Try.zeroValue5 w, rfl, (fun h => by first | rfl | cases h), rfl, fun w => Try.runUnderlying5 w⟩
theorem ty6 : TyOK Try.prog 6 d6 := ⟨fun w => Try.sizeOf6 w, fun w => Try.isAgg6 w, fun w => Try.zeroValue6 w, rfl, (fun h => by first | rfl | cases h), rfl, fun w => Try.runUnderlying6 w⟩
theorem ty7 : TyOK Try.prog 7 d7 := ⟨fun w => Try.sizeOf7 w, fun w => Try.isAgg7 w, fun w => Try.zeroValue7 w, rfl, (fun h => by first | rfl | cases h), rfl, ⟨_, fun w => Try.runUnderlying7 w, rfl⟩⟩
theorem ty8 : TyOK Try.prog 8 d8 := ⟨fun w => Try.sizeOf8 w, fun w => Try.isAgg8 w, fun w => Try.zeroValue8 w, rfl, (fun h => by first | rfl | cases h), rfl, ⟨_, fun w => Try.runUnderlying8 w, rfl⟩⟩
theorem ty9 : TyOK Try.prog 9 d9 := ⟨fun w => Try.sizeOf9 w, fun w => Try.isAgg9 w, fun w => Try.zeroValue9 w, rfl, (fun h => by first | rfl | cases h), rfl, fun w => Try.runUnderlying9 w⟩
theorem ty10 : TyOK Try.prog 10 d10 := ⟨fun w => Try.sizeOf10 w, fun w => Try.isAgg10 w, fun w => Try.zeroValue10 w, rfl, (fun h => by first | rfl | cases h), rfl, fun w => Try.runUnderlying10 w⟩
theorem ty11 : TyOK Try.prog 11 d11 := ⟨fun w => Try.sizeOf11 w, fun w => Try.isAgg11 w, fun w => Try.zeroValue11 w, rfl, (fun h => by first | rfl | cases h), rfl, fun w => Try.runUnderlying11 w⟩
theorem ty12 : TyOK Try.prog 12 d12 := ⟨fun w => Try.sizeOf12 w, fun w => Try.isAgg12 w, fun w => Try.zeroValue12 w, rfl, (fun h => by first | rfl | cases h), rfl, fun w => Try.runUnderlying12 w⟩
theorem ty13 : TyOK Try.prog 13 d13 := ⟨fun w => Try.sizeOf13 w, fun w => Try.isAgg13 w, fun w => Try.zeroValue13 w, rfl, (fun h => by first | rfl | cases h), rfl, ⟨_, fun w => Try.runUnderlying13 w, rfl⟩⟩
theorem ty14 : TyOK Try.prog 14 d14 := ⟨fun w => Try.sizeOf14 w, fun w => Try.isAgg14 w, fun w => Try.zeroValue14 w, rfl, (fun h => by first | rfl | cases h), rfl, ⟨_, fun w => Try.runUnderlying14 w, rfl⟩⟩
theorem ty15 : TyOK Try.prog 15 d15 := ⟨fun w => Try.sizeOf15 w, fun w => Try.isAgg15 w, fun w => Try.zeroValue15 w, rfl, (fun h => by first | rfl | cases h), rfl, trivial⟩
theorem ty16 : TyOK Try.prog 16 d16 := ⟨fun w => Try.sizeOf16 w, fun w => Try.isAgg16 w, fun w => Try.zeroValue16 w, rfl, (fun h => by first | rfl | cases h), rfl, trivial⟩
theorem ty17 : TyOK Try.prog 17 d17 := ⟨fun w => Try.sizeOf17 w, fun w => Try.isAgg17 w, fun w => Try.zeroValue17 w, rfl, (fun h => by first | rfl | cases h), rfl, trivial⟩
theorem ty18 : TyOK Try.prog 18 d18 := ⟨fun w => Try.sizeOf18 w, fun w => Try.isAgg18 w, fun w => Try.zeroValue18 w, rfl, (fun h => by first | rfl | cases h), rfl, ⟨_, fun w => Try.runUnderlying18 w, rfl⟩⟩
theorem ty19 : TyOK Try.prog 19 d19 := ⟨fun w => Try.sizeOf19 w, fun w => Try.isAgg19 w, fun w => Try.zeroValue19 w, rfl, (fun h => by first | rfl | cases h), rfl, ⟨_, fun w => Try.runUnderlying19 w, rfl⟩⟩
theorem ty20 : TyOK Try.prog 20 d20 := ⟨fun w => Try.sizeOf20 w, fun w => Try.isAgg20 w, fun w => Try.zeroValue20 w, rfl, (fun h => by first | rfl | cases h), rfl, trivial⟩
theorem ty21 : TyOK Try.prog 21 d21 := ⟨fun w => Try.sizeOf21 w, fun w => Try.isAgg21 w, fun w => Try.zeroValue21 w, rfl, (fun h => by first | rfl | cases h), rfl, fun w => Try.runUnderlying21 w⟩
theorem ty22 : TyOK Try.prog 22 d22 := ⟨fun w => Try.sizeOf22 w, fun w => Try.isAgg22 w, fun w => Try.zeroValue22 w, rfl, (fun h => by first | rfl | cases h), rfl, fun w => Try.runUnderlying22 w⟩
theorem ty23 : TyOK Try.prog 23 d23 := ⟨fun w => Try.sizeOf23 w, fun w => Try.isAgg23 w, fun w => Try.zeroValue23 w, rfl, (fun h => by first | rfl | cases h), rfl, fun w => Try.runUnderlying23 w⟩
theorem ty24 : TyOK Try.prog 24 d24 := ⟨fun w => Try.sizeOf24 w, fun w => Try.isAgg24 w, fun w => Try.zeroValue24 w, rfl, (fun h => by first | rfl | cases h), rfl, ⟨_, fun w => Try.runUnderlying24 w, rfl⟩⟩
theorem ty25 : TyOK Try.prog 25 d25 := ⟨fun w => Try.sizeOf25 w, fun w => Try.isAgg25 w, fun w => Try.zeroValue25 w, rfl, (fun h => by first | rfl | cases h), rfl, ⟨_, fun w => Try.runUnderlying25 w, rfl⟩⟩
theorem ty26 : TyOK Try.prog 26 d26 := ⟨fun w => Try.sizeOf26 w, fun w => Try.isAgg26 w, fun w => Try.zeroValue26 w, rfl, (fun h => by first | rfl | cases h), rfl, trivial⟩
theorem ty27 : TyOK Try.prog 27 d27 := ⟨fun w => Try.sizeOf27 w, fun w => Try.isAgg27 w, fun w => Try.zeroValue27 w, rfl, (fun h => by first | rfl | cases h), rfl, trivial⟩
theorem ty28 : TyOK Try.prog 28 d28 := ⟨fun w => Try.sizeOf28 w, fun w => Try.isAgg28 w, fun w => Try.zeroValue28 w, rfl, (fun h => by first | rfl | cases h), rfl, ⟨_, fun w => Try.runUnderlying28 w, rfl⟩⟩
theorem ty29 : TyOK Try.prog 29 d29 := ⟨fun w => Try.sizeOf29 w, fun w => Try.isAgg29 w, fun w => Try.zeroValue29 w, rfl, (fun h => by first | rfl | cases h), rfl, ⟨_, fun w => Try.runUnderlying29 w, rfl⟩⟩
theorem ty30 : TyOK Try.prog 30 d30 := ⟨fun w => Try.sizeOf30 w, fun w => Try.isAgg30 w, fun w => Try.zeroValue30 w, rfl, (fun h => by first | rfl | cases h), rfl, ⟨_, fun w => Try.runUnderlying30 w, rfl⟩⟩
theorem ty31 : TyOK Try.prog 31 d31 := ⟨fun w => Try.sizeOf31 w, fun w => Try.isAgg31 w, fun w => Try.zeroValue31 w, rfl, (fun h => by first | rfl | cases h), rfl, ⟨_, fun w => Try.runUnderlying31 w, rfl⟩⟩
theorem ty32 : TyOK Try.prog 32 d32 := ⟨fun w => Try.sizeOf32 w, fun w => Try.isAgg32 w, fun w => Try.zeroValue32 w, rfl, (fun h => by first | rfl | cases h), rfl, fun w => Try.runUnderlying32 w⟩
theorem ty34 : TyOK Try.prog 34 d34 := ⟨fun w => Try.sizeOf34 w, fun w => Try.isAgg34 w, fun w => Try.zeroValue34 w, rfl, (fun h => by first | rfl | cases h), rfl, trivial⟩
theorem ty35 : TyOK Try.prog 35 d35 := ⟨fun w => Try.sizeOf35 w, fun w => Try.isAgg35 w, fun w => Try.zeroValue35 w, rfl, (fun h => by first | rfl | cases h), rfl, trivial⟩
theorem ty36 : TyOK Try.prog 36 d36 := ⟨fun w => Try.sizeOf36 w, fun w => Try.isAgg36 w, fun w => Try.zeroValue36 w, rfl, (fun h => by first | rfl | cases h), rfl, trivial⟩
theorem ty37 : TyOK Try.prog 37 d37 := ⟨fun w => Try.sizeOf37 w, fun w => Try.isAgg37 w, fun w => Try.zeroValue37 w, rfl, (fun h => by first | rfl | cases h), rfl, trivial⟩
theorem ty38 : TyOK Try.prog 38 d38 := ⟨fun w => Try.sizeOf38 w, fun w => Try.isAgg38 w, fun w => Try.zeroValue38 w, rfl, (fun h => by first | rfl | cases h), rfl, trivial⟩
theorem ty39 : TyOK Try.prog 39 d39 := ⟨fun w => Try.sizeOf39 w, fun w => Try.isAgg39 w, fun w => Try.zeroValue39 w, rfl, (fun h => by first | rfl | cases h), rfl, trivial⟩
theorem ty41 : TyOK Try.prog 41 d41 := ⟨fun w => Try.sizeOf41 w, fun w => Try.isAgg41 w, fun w => Try.zeroValue41 w, rfl, (fun h => by first | rfl | cases h), rfl, trivial⟩
theorem ty42 : TyOK Try.prog 42 d42 := ⟨fun w => Try.sizeOf42 w, fun w => Try.isAgg42 w, fun w => Try.zeroValue42 w, rfl, (fun h => by first | rfl | cases h), rfl, trivial⟩
theorem ty43 : TyOK Try.prog 43 d43 := ⟨fun w => Try.sizeOf43 w, fun w => Try.isAgg43 w, fun w => Try.zeroValue43 w, rfl, (fun h => by first | rfl | cases h), rfl, trivial⟩
theorem ty44 : TyOK Try.prog 44 d44 := ⟨fun w => Try.sizeOf44 w, fun w => Try.isAgg44 w, fun w => Try.zeroValue44 w, rfl, (fun h => by first | rfl | cases h), rfl, trivial⟩
theorem ty46 : TyOK Try.prog 46 d46 := ⟨fun w => Try.sizeOf46 w, fun w => Try.isAgg46 w, fun w => Try.zeroValue46 w, rfl, (fun h => by first | rfl | cases h), rfl, trivial⟩
theorem ty47 : TyOK Try.prog 47 d47 := ⟨fun w => Try.sizeOf47 w, fun w => Try.isAgg47 w, fun w => Try.zeroValue47 w, rfl, (fun h => by first | rfl | cases h), rfl, trivial⟩
theorem ty48 : TyOK Try.prog 48 d48 := ⟨fun w => Try.sizeOf48 w, fun w => Try.isAgg48 w, fun w => Try.zeroValue48 w, rfl, (fun h => by first | rfl | cases h), rfl, trivial⟩
theorem ty49 : TyOK Try.prog 49 d49 := ⟨fun w => Try.sizeOf49 w, fun w => Try.isAgg49 w, fun w => Try.zeroValue49 w, rfl, (fun h => by first | rfl | cases h), rfl, trivial⟩
theorem ty50 : TyOK Try.prog 50 d50 := ⟨fun w => Try.sizeOf50 w, fun w => Try.isAgg50 w, fun w => Try.zeroValue50 w, rfl, (fun h => by first | rfl | cases h), rfl, trivial⟩
theorem ty51 : TyOK Try.prog 51 d51 := ⟨fun w => Try.sizeOf51 w, fun w => Try.isAgg51 w, fun w => Try.zeroValue51 w, rfl, (fun h => by first | rfl | cases h), rfl, trivial⟩
theorem ty52 : TyOK Try.prog 52 d52 := ⟨fun w => Try.sizeOf52 w, fun w => Try.isAgg52 w, fun w => Try.zeroValue52 w, rfl, (fun h => by first | rfl | cases h), rfl, trivial⟩
theorem ty53 : TyOK Try.prog 53 d53 := ⟨fun w => Try.sizeOf53 w, fun w => Try.isAgg53 w, fun w => Try.zeroValue53 w, rfl, (fun h => by first | rfl | cases h), rfl, trivial⟩
theorem ty55 : TyOK Try.prog 55 d55 := ⟨fun w => Try.sizeOf55 w, fun w => Try.isAgg55 w, fun w => Try.zeroValue55 w, rfl, (fun h => by first | rfl | cases h), rfl, trivial⟩
theorem ty56 : TyOK Try.prog 56 d56 := ⟨fun w => Try.sizeOf56 w, fun w => Try.isAgg56 w, fun w => Try.zeroValue56 w, rfl, (fun h => by first | rfl | cases h), rfl, trivial⟩
theorem ty57 : TyOK Try.prog 57 d57 := ⟨fun w => Try.sizeOf57 w, fun w => Try.isAgg57 w, fun w => Try.zeroValue57 w, rfl, (fun h => by first | rfl | cases h), rfl, trivial⟩
theorem ty58 : TyOK Try.prog 58 d58 := ⟨fun w => Try.sizeOf58 w, fun w => Try.isAgg58 w, fun w => Try.zeroValue58 w, rfl, (fun h => by first | rfl | cases h), rfl, trivial⟩
theorem ty59 : TyOK Try.prog 59 d59 := ⟨fun w => Try.sizeOf59 w, fun w => Try.isAgg59 w, fun w => Try.zeroValue59 w, rfl, (fun h => by first | rfl | cases h), rfl, fun w => Try.runUnderlying59 w⟩
theorem ty60 : TyOK Try.prog 60 d60 := ⟨fun w => Try.sizeOf60 w, fun w => Try.isAgg60 w, fun w => Try.zeroValue60 w, rfl, (fun h => by first | rfl | cases h), rfl, trivial⟩
theorem ty62 : TyOK Try.prog 62 d62 := ⟨fun w => Try.sizeOf62 w, fun w => Try.isAgg62 w, fun w => Try.zeroValue62 w, rfl, (fun h => by first | rfl | cases h), rfl, trivial⟩
theorem ty63 : TyOK Try.prog 63 d63 := ⟨fun w => Try.sizeOf63 w, fun w => Try.isAgg63 w, fun w => Try.zeroValue63 w, rfl, (fun h => by first | rfl | cases h), rfl, trivial⟩
theorem ty64 : TyOK Try.prog 64 d64 := ⟨fun w => Try.sizeOf64 w, fun w => Try.isAgg64 w, fun w => Try.zeroValue64 w, rfl, (fun h => by first | rfl | cases h), rfl, trivial⟩
theorem ty65 : TyOK Try.prog 65 d65 := ⟨fun w => Try.sizeOf65 w, fun w => Try.isAgg65 w, fun w => Try.zeroValue65 w, rfl, (fun h => by first | rfl | cases h), rfl, trivial⟩
theorem ty66 : TyOK Try.prog 66 d66 := ⟨fun w => Try.sizeOf66 w, fun w => Try.isAgg66 w, fun w => Try.zeroValue66 w, rfl, (fun h => by first | rfl | cases h), rfl, trivial⟩
theorem ty67 : TyOK Try.prog 67 d67 := ⟨fun w => Try.sizeOf67 w, fun w => Try.isAgg67 w, fun w => Try.zeroValue67 w, rfl, (fun h => by first | rfl | cases h), rfl, trivial⟩
theorem ty68 : TyOK Try.prog 68 d68 := ⟨fun w => Try.sizeOf68 w, fun w => Try.isAgg68 w, fun w => Try.zeroValue68 w, rfl, (fun h => by first | rfl | cases h), rfl, fun w => Try.runUnderlying68 w⟩
theorem ty69 : TyOK Try.prog 69 d69 := ⟨fun w => Try.sizeOf69 w, fun w => Try.isAgg69 w, fun w => Try.zeroValue69 w, rfl, (fun h => by first | rfl | cases h), rfl, trivial⟩
theorem ty70 : TyOK Try.prog 70 d70 := ⟨fun w => Try.sizeOf70 w, fun w => Try.isAgg70 w, fun w => Try.zeroValue70 w, rfl, (fun h => by first | rfl | cases h), rfl, fun w => Try.runUnderlying70 w⟩
theorem ty71 : TyOK Try.prog 71 d71 := ⟨fun w => Try.sizeOf71 w, fun w => Try.isAgg71 w, fun w => Try.zeroValue71 w, rfl, (fun h => by first | rfl | cases h), rfl, trivial⟩
theorem ty72 : TyOK Try.prog 72 d72 := ⟨fun w => Try.sizeOf72 w, fun w => Try.isAgg72 w, fun w => Try.zeroValue72 w, rfl, (fun h => by first | rfl | cases h), rfl, trivial⟩
theorem ty73 : TyOK Try.prog 73 d73 := ⟨fun w => Try.sizeOf73 w, fun w => Try.isAgg73 w, fun w => Try.zeroValue73 w, rfl, (fun h => by first | rfl | cases h), rfl, trivial⟩
theorem ty74 : TyOK Try.prog 74 d74 := ⟨fun w => Try.sizeOf74 w, fun w => Try.isAgg74 w, fun w => Try.zeroValue74 w, rfl, (fun h => by first | rfl | cases h), rfl, trivial⟩
theorem ty75 : TyOK Try.prog 75 d75 := ⟨fun w => Try.sizeOf75 w, fun w => Try.isAgg75 w, fun w => Try.zeroValue75 w, rfl, (fun h => by first | rfl | cases h), rfl, trivial⟩
theorem ty76 : TyOK Try.prog 76 d76 := ⟨fun w => Try.sizeOf76 w, fun w => Try.isAgg76 w, fun w => Try.zeroValue76 w, rfl, (fun h => by first | rfl | cases h), rfl, trivial⟩
theorem ty77 : TyOK Try.prog 77 d77 := ⟨fun w => Try.sizeOf77 w, fun w => Try.isAgg77 w, fun w => Try.zeroValue77 w, rfl, (fun h => by first | rfl | cases h), rfl, trivial⟩
theorem ty78 : TyOK Try.prog 78 d78 := ⟨fun w => Try.sizeOf78 w, fun w => Try.isAgg78 w, fun w => Try.zeroValue78 w, rfl, (fun h => by first | rfl | cases h), rfl, trivial⟩
theorem ty79 : TyOK Try.prog 79 d79 := ⟨fun w => Try.sizeOf79 w, fun w => Try.isAgg79 w, fun w => Try.zeroValue79 w, rfl, (fun h => by first | rfl | cases h), rfl, trivial⟩
theorem ty80 : TyOK Try.prog 80 d80 := ⟨fun w => Try.sizeOf80 w, fun w => Try.isAgg80 w, fun w => Try.zeroValue80 w, rfl, (fun h => by first | rfl | cases h), rfl, trivial⟩
theorem ty81 : TyOK Try.prog 81 d81 := ⟨fun w => Try.sizeOf81 w, fun w => Try.isAgg81 w, fun w => Try.zeroValue81 w, rfl, (fun h => by first | rfl | cases h), rfl, trivial⟩
theorem ty82 : TyOK Try.prog 82 d82 := ⟨fun w => Try.sizeOf82 w, fun w => Try.isAgg82 w, fun w => Try.zeroValue82 w, rfl, (fun h => by first | rfl | cases h), rfl, trivial⟩
theorem ty83 : TyOK Try.prog 83 d83 := ⟨fun w => Try.sizeOf83 w, fun w => Try.isAgg83 w, fun w => Try.zeroValue83 w, rfl, (fun h => by first | rfl | cases h), rfl, trivial⟩
theorem ty84 : TyOK Try.prog 84 d84 := ⟨fun w => Try.sizeOf84 w, fun w => Try.isAgg84 w, fun w => Try.zeroValue84 w, rfl, (fun h => by first | rfl | cases h), rfl, trivial⟩
theorem ty85 : TyOK Try.prog 85 d85 := ⟨fun w => Try.sizeOf85 w, fun w => Try.isAgg85 w, fun w => Try.zeroValue85 w, rfl, (fun h => by first | rfl | cases h), rfl, trivial⟩
theorem ty86 : TyOK Try.prog 86 d86 := ⟨fun w => Try.sizeOf86 w, fun w => Try.isAgg86 w, fun w => Try.zeroValue86 w, rfl, (fun h => by first | rfl | cases h), rfl, fun w => Try.runUnderlying86 w⟩
theorem ty87 : TyOK Try.prog 87 d87 := ⟨fun w => Try.sizeOf87 w, fun w => Try.isAgg87 w, fun w => Try.zeroValue87 w, rfl, (fun h => by first | rfl | cases h), rfl, ⟨_, fun w => Try.runUnderlying87 w, rfl⟩⟩
theorem ty88 : TyOK Try.prog 88 d88 := ⟨fun w => Try.sizeOf88 w, fun w => Try.isAgg88 w, fun w => Try.zeroValue88 w, rfl, (fun h => by first | rfl | cases h), rfl, ⟨_, fun w => Try.runUnderlying88 w, rfl⟩⟩
theorem ty89 : TyOK Try.prog 89 d89 := ⟨fun w => Try.sizeOf89 w, fun w => Try.isAgg89 w, fun w => Try.zeroValue89 w, rfl, (fun h => by first | rfl | cases h), rfl, trivial⟩
theorem ty90 : TyOK Try.prog 90 d90 := ⟨fun w => Try.sizeOf90 w, fun w => Try.isAgg90 w, fun w => Try.zeroValue90 w, rfl, (fun h => by first | rfl | cases h), rfl, trivial⟩
theorem ty91 : TyOK Try.prog 91 d91 := ⟨fun w => Try.sizeOf91 w, fun w => Try.isAgg91 w, fun w => Try.zeroValue91 w, rfl, (fun h => by first | rfl | cases h), rfl, trivial⟩
theorem ty92 : TyOK Try.prog 92 d92 := ⟨fun w => Try.sizeOf92 w, fun w => Try.isAgg92 w, fun w => Try.zeroValue92 w, rfl, (fun h => by first | rfl | cases h), rfl, trivial⟩
theorem ty93 : TyOK Try.prog 93 d93 := ⟨fun w => Try.sizeOf93 w, fun w => Try.isAgg93 w, fun w => Try.zeroValue93 w, rfl, (fun h => by first | rfl | cases h), rfl, trivial⟩
theorem ty94 : TyOK Try.prog 94 d94 := ⟨fun w => Try.sizeOf94 w, fun w => Try.isAgg94 w, fun w => Try.zeroValue94 w, rfl, (fun h => by first | rfl | cases h), rfl, ⟨_, fun w => Try.runUnderlying94 w, rfl⟩⟩
theorem ty95 : TyOK Try.prog 95 d95 := ⟨fun w => Try.sizeOf95 w, fun w => Try.isAgg95 w, fun w => Try.zeroValue95 w, rfl, (fun h => by first | rfl | cases h), rfl, ⟨_, fun w => Try.runUnderlying95 w, rfl⟩⟩
theorem ty96 : TyOK Try.prog 96 d96 := ⟨fun w => Try.sizeOf96 w, fun w => Try.isAgg96 w, fun w => Try.zeroValue96 w, rfl, (fun h => by first | rfl | cases h), rfl, trivial⟩
theorem ty97 : TyOK Try.prog 97 d97 := ⟨fun w => Try.sizeOf97 w, fun w => Try.isAgg97 w, fun w => Try.zeroValue97 w, rfl, (fun h => by first | rfl | cases h), rfl, trivial⟩
theorem ty98 : TyOK Try.prog 98 d98 := ⟨fun w => Try.sizeOf98 w, fun w => Try.isAgg98 w, fun w => Try.zeroValue98 w, rfl, (fun h => by first | rfl | cases h), rfl, trivial⟩
theorem ty99 : TyOK Try.prog 99 d99 := ⟨fun w => Try.sizeOf99 w, fun w => Try.isAgg99 w, fun w => Try.zeroValue99 w, rfl, (fun h => by first | rfl | cases h), rfl, trivial⟩
theorem ty100 : TyOK Try.prog 100 d100 := ⟨fun w => Try.sizeOf100 w, fun w => Try.isAgg100 w, fun w => Try.zeroValue100 w, rfl, (fun h => by first | rfl | cases h), rfl, fun w => Try.runUnderlying100 w⟩
theorem ty101 : TyOK Try.prog 101 d101 := ⟨fun w => Try.sizeOf101 w, fun w => Try.isAgg101 w, fun w => Try.zeroValue101 w, rfl, (fun h => by first | rfl | cases h), rfl, trivial⟩
theorem ty102 : TyOK Try.prog 102 d102 := ⟨fun w => Try.sizeOf102 w, fun w => Try.isAgg102 w, fun w => Try.zeroValue102 w, rfl, (fun h => by first | rfl | cases h), rfl, trivial⟩
theorem ty103 : TyOK Try.prog 103 d103 := ⟨fun w => Try.sizeOf103 w, fun w => Try.isAgg103 w, fun w => Try.zeroValue103 w, rfl, (fun h => by first | rfl | cases h), rfl, trivial⟩
theorem ty104 : TyOK Try.prog 104 d104 := ⟨fun w => Try.sizeOf104 w, fun w => Try.isAgg104 w, fun w => Try.zeroValue104 w, rfl, (fun h => by first | rfl | cases h), rfl, trivial⟩
theorem ty105 : TyOK Try.prog 105 d105 := ⟨fun w => Try.sizeOf105 w, fun w => Try.isAgg105 w, fun w => Try.zeroValue105 w, rfl, (fun h => by first | rfl | cases h), rfl, ⟨_, fun w => Try.runUnderlying105 w, rfl⟩⟩
theorem ty106 : TyOK Try.prog 106 d106 := ⟨fun w => Try.sizeOf106 w, fun w => Try.isAgg106 w, fun w => Try.zeroValue106 w, rfl, (fun h => by first | rfl | cases h), rfl, ⟨_, fun w => Try.runUnderlying106 w, rfl⟩⟩
theorem ty107 : TyOK Try.prog 107 d107 := ⟨fun w => Try.sizeOf107 w, fun w => Try.isAgg107 w, fun w => Try.zeroValue107 w, rfl, (fun h => by first | rfl | cases h), rfl, trivial⟩
theorem ty108 : TyOK Try.prog 108 d108 := ⟨fun w => Try.sizeOf108 w, fun w => Try.isAgg108 w, fun w => Try.zeroValue108 w, rfl, (fun h => by first | rfl | cases h), rfl, trivial⟩
theorem ty109 : TyOK Try.prog 109 d109 := ⟨fun w => Try.sizeOf109 w, fun w => Try.isAgg109 w, fun w => Try.zeroValue109 w, rfl, (fun h => by first | rfl | cases h), rfl, trivial⟩
theorem ty110 : TyOK Try.prog 110 d110 := ⟨fun w => Try.sizeOf110 w, fun w => Try.isAgg110 w, fun w => Try.zeroValue110 w, rfl, (fun h => by first | rfl | cases h), rfl, trivial⟩
theorem ty111 : TyOK Try.prog 111 d111 := ⟨fun w => Try.sizeOf111 w, fun w => Try.isAgg111 w, fun w => Try.zeroValue111 w, rfl, (fun h => by first | rfl | cases h), rfl, fun w => Try.runUnderlying111 w⟩
theorem ty113 : TyOK Try.prog 113 d113 := ⟨fun w => Try.sizeOf113 w, fun w => Try.isAgg113 w, fun w => Try.zeroValue113 w, rfl, (fun h => by first | rfl | cases h), rfl, trivial⟩
theorem ty114 : TyOK Try.prog 114 d114 := ⟨fun w => Try.sizeOf114 w, fun w => Try.isAgg114 w, fun w => Try.zeroValue114 w, rfl, (fun h => by first | rfl | cases h), rfl, trivial⟩
theorem ty115 : TyOK Try.prog 115 d115 := ⟨fun w => Try.sizeOf115 w, fun w => Try.isAgg115 w, fun w => Try.zeroValue115 w, rfl, (fun h => by first | rfl | cases h), rfl, fun w => Try.runUnderlying115 w⟩
theorem ty116 : TyOK Try.prog 116 d116 := ⟨fun w => Try.sizeOf116 w, fun w => Try.isAgg116 w, fun w => Try.zeroValue116 w, rfl, (fun h => by first | rfl | cases h), rfl, trivial⟩
theorem ty117 : TyOK Try.prog 117 d117 := ⟨fun w => Try.sizeOf117 w, fun w => Try.isAgg117 w, fun w => Try.zeroValue117 w, rfl, (fun h => by first | rfl | cases h), rfl, trivial⟩
theorem ty118 : TyOK Try.prog 118 d118 := ⟨fun w => Try.sizeOf118 w, fun w => Try.isAgg118 w, fun w => Try.zeroValue118 w, rfl, (fun h => by first | rfl | cases h), rfl, trivial⟩
theorem ty119 : TyOK Try.prog 119 d119 := ⟨fun w => Try.sizeOf119 w, fun w => Try.isAgg119 w, fun w => Try.zeroValue119 w, rfl, (fun h => by first | rfl | cases h), rfl, trivial⟩
theorem ty120 : TyOK Try.prog 120 d120 := ⟨fun w => Try.sizeOf120 w, fun w => Try.isAgg120 w, fun w => Try.zeroValue120 w, rfl, (fun h => by first | rfl | cases h), rfl, trivial⟩
theorem ty121 : TyOK Try.prog 121 d121 := ⟨fun w => Try.sizeOf121 w, fun w => Try.isAgg121 w, fun w => Try.zeroValue121 w, rfl, (fun h => by first | rfl | cases h), rfl, trivial⟩
theorem ty122 : TyOK Try.prog 122 d122 := ⟨fun w => Try.sizeOf122 w, fun w => Try.isAgg122 w, fun w => Try.zeroValue122 w, rfl, (fun h => by first | rfl | cases h), rfl, fun w => Try.runUnderlying122 w⟩
theorem ty123 : TyOK Try.prog 123 d123 := ⟨fun w => Try.sizeOf123 w, fun w => Try.isAgg123 w, fun w => Try.zeroValue123 w, rfl, (fun h => by first | rfl | cases h), rfl, trivial⟩
theorem ty124 : TyOK Try.prog 124 d124 := ⟨fun w => Try.sizeOf124 w, fun w => Try.isAgg124 w, fun w => Try.zeroValue124 w, rfl, (fun h => by first | rfl | cases h), rfl, trivial⟩
theorem ty125 : TyOK Try.prog 125 d125 := ⟨fun w => Try.sizeOf125 w, fun w => Try.isAgg125 w, fun w => Try.zeroValue125 w, rfl, (fun h => by first | rfl | cases h), rfl, trivial⟩
theorem ty126 : TyOK Try.prog 126 d126 := ⟨fun w => Try.sizeOf126 w, fun w => Try.isAgg126 w, fun w => Try.zeroValue126 w, rfl, (fun h => by first | rfl | cases h), rfl, trivial⟩
theorem ty127 : TyOK Try.prog 127 d127 := ⟨fun w => Try.sizeOf127 w, fun w => Try.isAgg127 w, fun w => Try.zeroValue127 w, rfl, (fun h => by first | rfl | cases h), rfl, ⟨_, fun w => Try.runUnderlying127 w, rfl⟩⟩
theorem ty128 : TyOK Try.prog 128 d128 := ⟨fun w => Try.sizeOf128 w, fun w => Try.isAgg128 w, fun w => Try.zeroValue128 w, rfl, (fun h => by first | rfl | cases h), rfl, ⟨_, fun w => Try.runUnderlying128 w, rfl⟩⟩
theorem ty129 : TyOK Try.prog 129 d129 := ⟨fun w => Try.sizeOf129 w, fun w => Try.isAgg129 w, fun w => Try.zeroValue129 w, rfl, (fun h => by first | rfl | cases h), rfl, fun w => Try.runUnderlying129 w⟩
theorem ty132 : TyOK Try.prog 132 d132 := ⟨fun w => Try.sizeOf132 w, fun w => Try.isAgg132 w, fun w => Try.zeroValue132 w, rfl, (fun h => by first | rfl | cases h), rfl, trivial⟩
theorem ty133 : TyOK Try.prog 133 d133 := ⟨fun w => Try.sizeOf133 w, fun w => Try.isAgg133 w, fun w => Try.zeroValue133 w, rfl, (fun h => by first | rfl | cases h), rfl, fun w => Try.runUnderlying133 w⟩
theorem ty134 : TyOK Try.prog 134 d134 := ⟨fun w => Try.sizeOf134 w, fun w => Try.isAgg134 w, fun w => Try.zeroValue134 w, rfl, (fun h => by first | rfl | cases h), rfl, fun w => Try.runUnderlying134 w⟩
theorem ty135 : TyOK Try.prog 135 d135 := ⟨fun w => Try.sizeOf135 w, fun w => Try.isAgg135 w, fun w => Try.zeroValue135 w, rfl, (fun h => by first | rfl | cases h), rfl, trivial⟩
theorem ty136 : TyOK Try.prog 136 d136 := ⟨fun w => Try.sizeOf136 w, fun w => Try.isAgg136 w, fun w => Try.zeroValue136 w, rfl, (fun h => by first | rfl | cases h), rfl, trivial⟩
theorem ty137 : TyOK Try.prog 137 d137 := ⟨fun w => Try.sizeOf137 w, fun w => Try.isAgg137 w, fun w => Try.zeroValue137 w, rfl, (fun h => by first | rfl | cases h), rfl, fun w => Try.runUnderlying137 w⟩
theorem ty138 : TyOK Try.prog 138 d138 := ⟨fun w => Try.sizeOf138 w, fun w => Try.isAgg138 w, fun w => Try.zeroValue138 w, rfl, (fun h => by first | rfl | cases h), rfl, fun w => Try.runUnderlying138 w⟩
theorem ty139 : TyOK Try.prog 139 d139 := ⟨fun w => Try.sizeOf139 w, fun w => Try.isAgg139 w, fun w => Try.zeroValue139 w, rfl, (fun h => by first | rfl | cases h), rfl, ⟨_, fun w => Try.runUnderlying139 w, rfl⟩⟩
theorem ty140 : TyOK Try.prog 140 d140 := ⟨fun w => Try.sizeOf140 w, fun w => Try.isAgg140 w, fun w => Try.zeroValue140 w, rfl, (fun h => by first | rfl | cases h), rfl, ⟨_, fun w => Try.runUnderlying140 w, rfl⟩⟩
theorem tfine : Tab.fine Try.prog TT := by
  refine ⟨fun t d h => ?_, fun t d n e h hk => ?_⟩
  · unfold TT at h
    split at h
    · injection h with h; subst h; exact ty1
    · injection h with h; subst h; exact ty2
    · injection h with h; subst h; exact ty3
    · injection h with h; subst h; exact ty4
    · injection h with h; subst h; exact ty5
    · injection h with h; subst h; exact ty6
    · injection h with h; subst h; exact ty7
    · injection h with h; subst h; exact ty8
    · injection h with h; subst h; exact ty9
    · injection h with h; subst h; exact ty10
    · injection h with h; subst h; exact ty11
    · injection h with h; subst h; exact ty12
    · injection h with h; subst h; exact ty13
    · injection h with h; subst h; exact ty14
    · injection h with h; subst h; exact ty15
    · injection h with h; subst h; exact ty16
    · injection h with h; subst h; exact ty17
    · injection h with h; subst h; exact ty18
    · injection h with h; subst h; exact ty19
    · injection h with h; subst h; exact ty20
    · injection h with h; subst h; exact ty21
    · injection h with h; subst h; exact ty22
    · injection h with h; subst h; exact ty23
    · injection h with h; subst h; exact ty24
    · injection h with h; subst h; exact ty25
    · injection h with h; subst h; exact ty26
    · injection h with h; subst h; exact ty27
    · injection h with h; subst h; exact ty28
    · injection h with h; subst h; exact ty29
    · injection h with h; subst h; exact ty30
    · injection h with h; subst h; exact ty31
    · injection h with h; subst h; exact ty32
    · injection h with h; subst h; exact ty34
    · injection h with h; subst h; exact ty35
    · injection h with h; subst h; exact ty36
    · injection h with h; subst h; exact ty37
    · injection h with h; subst h; exact ty38
    · injection h with h; subst h; exact ty39
    · injection h with h; subst h; exact ty41
    · injection h with h; subst h; exact ty42
    · injection h with h; subst h; exact ty43
    · injection h with h; subst h; exact ty44
    · injection h with h; subst h; exact ty46
    · injection h with h; subst h; exact ty47
    · injection h with h; subst h; exact ty48
    · injection h with h; subst h; exact ty49
    · injection h with h; subst h; exact ty50
    · injection h with h; subst h; exact ty51
    · injection h with h; subst h; exact ty52
    · injection h with h; subst h; exact ty53
    · injection h with h; subst h; exact ty55
    · injection h with h; subst h; exact ty56
    · injection h with h; subst h; exact ty57
    · injection h with h; subst h; exact ty58
    · injection h with h; subst h; exact ty59
    · injection h with h; subst h; exact ty60
    · injection h with h; subst h; exact ty62
    · injection h with h; subst h; exact ty63
    · injection h with h; subst h; exact ty64
    · injection h with h; subst h; exact ty65
    · injection h with h; subst h; exact ty66
    · injection h with h; subst h; exact ty67
    · injection h with h; subst h; exact ty68
    · injection h with h; subst h; exact ty69
    · injection h with h; subst h; exact ty70
    · injection h with h; subst h; exact ty71
    · injection h with h; subst h; exact ty72
    · injection h with h; subst h; exact ty73
    · injection h with h; subst h; exact ty74
    · injection h with h; subst h; exact ty75
    · injection h with h; subst h; exact ty76
    · injection h with h; subst h; exact ty77
    · injection h with h; subst h; exact ty78
    · injection h with h; subst h; exact ty79
    · injection h with h; subst h; exact ty80
    · injection h with h; subst h; exact ty81
    · injection h with h; subst h; exact ty82
    · injection h with h; subst h; exact ty83
    · injection h with h; subst h; exact ty84
    · injection h with h; subst h; exact ty85
    · injection h with h; subst h; exact ty86
    · injection h with h; subst h; exact ty87
    · injection h with h; subst h; exact ty88
    · injection h with h; subst h; exact ty89
    · injection h with h; subst h; exact ty90
    · injection h with h; subst h; exact ty91
    · injection h with h; subst h; exact ty92
    · injection h with h; subst h; exact ty93
    · injection h with h; subst h; exact ty94
    · injection h with h; subst h; exact ty95
    · injection h with h; subst h; exact ty96
    · injection h with h; subst h; exact ty97
    · injection h with h; subst h; exact ty98
    · injection h with h; subst h; exact ty99
    · injection h with h; subst h; exact ty100
    · injection h with h; subst h; exact ty101
    · injection h with h; subst h; exact ty102
    · injection h with h; subst h; exact ty103
    · injection h with h; subst h; exact ty104
    · injection h with h; subst h; exact ty105
    · injection h with h; subst h; exact ty106
    · injection h with h; subst h; exact ty107
    · injection h with h; subst h; exact ty108
    · injection h with h; subst h; exact ty109
    · injection h with h; subst h; exact ty110
    · injection h with h; subst h; exact ty111
    · injection h with h; subst h; exact ty113
    · injection h with h; subst h; exact ty114
    · injection h with h; subst h; exact ty115
    · injection h with h; subst h; exact ty116
    · injection h with h; subst h; exact ty117
    · injection h with h; subst h; exact ty118
    · injection h with h; subst h; exact ty119
    · injection h with h; subst h; exact ty120
    · injection h with h; subst h; exact ty121
    · injection h with h; subst h; exact ty122
    · injection h with h; subst h; exact ty123
    · injection h with h; subst h; exact ty124
    · injection h with h; subst h; exact ty125
    · injection h with h; subst h; exact ty126
    · injection h with h; subst h; exact ty127
    · injection h with h; subst h; exact ty128
    · injection h with h; subst h; exact ty129
    · injection h with h; subst h; exact ty132
    · injection h with h; subst h; exact ty133
    · injection h with h; subst h; exact ty134
    · injection h with h; subst h; exact ty135
    · injection h with h; subst h; exact ty136
    · injection h with h; subst h; exact ty137
    · injection h with h; subst h; exact ty138
    · injection h with h; subst h; exact ty139
    · injection h with h; subst h; exact ty140
    · cases h
  · unfold TT at h
    split at h
    · injection h with h; subst h; cases hk
    · injection h with h; subst h; cases hk
    · injection h with h; subst h; cases hk
    · injection h with h; subst h; cases hk
    · injection h with h; subst h; cases hk
    · injection h with h; subst h; cases hk
    · injection h with h; subst h; cases hk
    · injection h with h; subst h; cases hk
    · injection h with h; subst h; cases hk
    · injection h with h; subst h; cases hk
    · injection h with h; subst h; cases hk
    · injection h with h; subst h; cases hk
    · injection h with h; subst h; cases hk
    · injection h with h; subst h; cases hk
    · injection h with h; subst h; cases hk
    · injection h with h; subst h; cases hk
    · injection h with h; subst h; cases hk
    · injection h with h; subst h; cases hk
    · injection h with h; subst h; cases hk
    · injection h with h; subst h; cases hk
    · injection h with h; subst h; cases hk
    · injection h with h; subst h; cases hk
    · injection h with h; subst h; cases hk
    · injection h with h; subst h; cases hk
    · injection h with h; subst h; cases hk
    · injection h with h; subst h; cases hk
    · injection h with h; subst h; cases hk
    · injection h with h; subst h; cases hk
    · injection h with h; subst h; cases hk
    · injection h with h; subst h; cases hk
    · injection h with h; subst h; cases hk
    · injection h with h; subst h; cases hk
    · injection h with h; subst h; cases hk
    · injection h with h; subst h; cases hk
    · injection h with h; subst h; cases hk
    · injection h with h; subst h; cases hk
    · injection h with h; subst h; cases hk
    · injection h with h; subst h; cases hk
    · injection h with h; subst h; cases hk
    · injection h with h; subst h; cases hk
    · injection h with h; subst h; cases hk
    · injection h with h; subst h; cases hk
    · injection h with h; subst h; cases hk
    · injection h with h; subst h; cases hk
    · injection h with h; subst h; cases hk
    · injection h with h; subst h; cases hk
    · injection h with h; subst h; cases hk
    · injection h with h; subst h; cases hk
    · injection h with h; subst h; cases hk
    · injection h with h; subst h; cases hk
    · injection h with h; subst h; cases hk
    · injection h with h; subst h; cases hk
    · injection h with h; subst h; cases hk
    · injection h with h; subst h; cases hk
    · injection h with h; subst h; cases hk
    · injection h with h; subst h; cases hk
    · injection h with h; subst h; cases hk
    · injection h with h; subst h; cases hk
    · injection h with h; subst h; cases hk
    · injection h with h; subst h; cases hk
    · injection h with h; subst h; cases hk
    · injection h with h; subst h; cases hk
    · injection h with h; subst h; cases hk
    · injection h with h; subst h; cases hk
    · injection h with h; subst h; cases hk
    · injection h with h; subst h; cases hk
    · injection h with h; subst h; cases hk
    · injection h with h; subst h; cases hk
    · injection h with h; subst h; cases hk
    · injection h with h; subst h; cases hk
    · injection h with h; subst h; cases hk
    · injection h with h; subst h; cases hk
    · injection h with h; subst h; cases hk
    · injection h with h; subst h; cases hk
    · injection h with h; subst h; cases hk
    · injection h with h; subst h; cases hk
    · injection h with h; subst h; cases hk
    · injection h with h; subst h; cases hk
    · injection h with h; subst h; cases hk
    · injection h with h; subst h; cases hk
    · injection h with h; subst h; cases hk
    · injection h with h; subst h; cases hk
    · injection h with h; subst h; cases hk
    · injection h with h; subst h; cases hk
    · injection h with h; subst h; cases hk
    · injection h with h; subst h; cases hk
    · injection h with h; subst h; cases hk
    · injection h with h; subst h; cases hk
    · injection h with h; subst h; cases hk
    · injection h with h; subst h; cases hk
    · injection h with h; subst h; cases hk
    · injection h with h; subst h; cases hk
    · injection h with h; subst h; cases hk
    · injection h with h; subst h; cases hk
    · injection h with h; subst h; injection hk with h1 h2; subst h1; subst h2; exact ⟨d22, rfl, rfl⟩
    · injection h with h; subst h; cases hk
    · injection h with h; subst h; cases hk
    · injection h with h; subst h; cases hk
    · injection h with h; subst h; cases hk
    · injection h with h; subst h; cases hk
    · injection h with h; subst h; cases hk
    · injection h with h; subst h; cases hk
    · injection h with h; subst h; cases hk
    · injection h with h; subst h; cases hk
    · injection h with h; subst h; cases hk
    · injection h with h; subst h; cases hk
    · injection h with h; subst h; cases hk
    · injection h with h; subst h; cases hk
    · injection h with h; subst h; cases hk
    · injection h with h; subst h; cases hk
    · injection h with h; subst h; cases hk
    · injection h with h; subst h; cases hk
    · injection h with h; subst h; cases hk
    · injection h with h; subst h; cases hk
    · injection h with h; subst h; cases hk
    · injection h with h; subst h; cases hk
    · injection h with h; subst h; cases hk
    · injection h with h; subst h; cases hk
    · injection h with h; subst h; cases hk
    · injection h with h; subst h; cases hk
    · injection h with h; subst h; cases hk
    · injection h with h; subst h; cases hk
    · injection h with h; subst h; injection hk with h1 h2; subst h1; subst h2; exact ⟨d16, rfl, rfl⟩
    · injection h with h; subst h; cases hk
    · injection h with h; subst h; cases hk
    · injection h with h; subst h; cases hk
    · injection h with h; subst h; cases hk
    · injection h with h; subst h; cases hk
    · injection h with h; subst h; cases hk
    · injection h with h; subst h; cases hk
    · injection h with h; subst h; cases hk
    · injection h with h; subst h; cases hk
    · cases h
end Go.Proofs.Ytafhnfcahhlanaa
/- Chapter 02: what the small functions of rounding compute. -/
set_option linter.unusedVariables false
set_option linter.unusedSimpArgs false
namespace Go.Proofs.Ytafhnfcahhlanaa
open Go.Sx Go.RowKit
theorem hmix : Try.prog.follows .mixedOrders = true := by decide
abbrev I (n : Int) : Value := .int .i64 n
/-- Whether a rule rounds up. -/
def upB (rule q r b : Int) : Bool := if rule = 1 then false else if rule = 2 then decide (r > 0) else if rule = 3 then decide (2 * r ≥ b) else decide (2 * r > b) || ((2 * r == b) && (q.tmod 2 != 0))
def rndR (a b rule : Int) : Int := if upB rule (a / b) (a % b) b then a % b - b else a % b
abbrev M : Int := 128849018880000
end Go.Proofs.Ytafhnfcahhlanaa
/- Chapter 02: what the quotient and the step compute, in the program and in the reference. -/
set_option linter.unusedVariables false
set_option linter.unusedSimpArgs false
namespace Go.Proofs.Ytafhnfcahhlanaa
open Go.Sx Go.RowKit
end Go.Proofs.Ytafhnfcahhlanaa
/- Chapter 02: the reference's quotient and step are the program's. -/
set_option linter.unusedVariables false
set_option linter.unusedSimpArgs false
namespace Go.Proofs.Ytafhnfcahhlanaa
open Go.Sx Go.RowKit
end Go.Proofs.Ytafhnfcahhlanaa
/- Chapter 02: the library's searches, the words of the rules. -/
set_option linter.unusedVariables false
set_option linter.unusedSimpArgs false
namespace Go.Proofs.Ytafhnfcahhlanaa
open Go.Sx Go.RowKit
/-- the first number from k on, of m, that p accepts; -1 if there is none -/
def firstI (p : Nat → Bool) : Nat → Nat → Int
  | _, 0 => -1
  | k, m + 1 => if p k = true then (k : Int) else firstI p (k + 1) m
def elI (l : List Int) (i : Nat) : List Value := [I (l.getD i 0)]
theorem indexFunc_any (f : FuncId) (q : Int → Bool) (hcf : ∀ args w, (callFunc f args).run Try.prog w = .ok (.enter f args) w)
    (hf : ∀ v w, Calls Try.prog f #[I v] w fun e w' => e = .returned (.bool (q v)) ∧ Below w.heap.size w w') (A : Option Addr) (c : Nat) (l : List Int) (w : World) (hl : RdRow w A l.length 1 (elI l)) (hm : l.length ≤ 4611686018427387904) :
    Calls Try.prog 65 #[.slice A l.length c, .func (.func f) #[] #[]] w fun e w' => e = .returned (I (firstI (fun k => q (l.getD k 0)) 0 l.length)) ∧ Below w.heap.size w w' := by
  refine enterPlain tfine Try.func65 rfl 19 Try.ntmps65 [.c (.inp 1000 A l.length c), .c (.k (.func (.func f) #[] #[]))] [⟨1000, A, 1, l.length, elI l⟩] rfl rfl ⟨hl, trivial⟩ ⟨.inl ⟨rfl, rfl, rfl⟩, trivial, trivial⟩ ?_
  refine G.seqR tfine rfl trivial ?_
  refine G.seq (G.seqR tfine rfl trivial ?_)
  refine G.block (G.loop (fun k : Nat => St.of [(0, .v (.c (.inp 1000 A l.length c))), (1, .v (.c (.k (.func (.func f) #[] #[])))), (7, .v (.c (.k (I l.length)))), (8, .v (.c (.k (I k))))] [(1000, .ro 1 l.length (elI l))])
    (fun k => k ≤ l.length ∧ firstI (fun k => q (l.getD k 0)) 0 l.length = firstI (fun k => q (l.getD k 0)) k (l.length - k)) (fun k => l.length - k) 0 ⟨by omega, by simp⟩ (St.le_of rfl ⟨⟨_, rfl, Blk.le_refl _⟩, trivial⟩ ⟨rfl, rfl, rfl, rfl, trivial⟩) ?_)
  rintro k ⟨hk, hfi⟩
  refine G.seqR tfine rfl trivial ?_
  refine G.seq (G.cond rfl (fun h => ?_) (fun h => ?_))
  rotate_left
  · have h := of_decide_eq_false h
    have : k = l.length := by omega
    subst this
    refine G.exit ?_
    refine G.seqR tfine rfl trivial ?_
    refine G.ret (endK.ret rfl ?_)
    rw [hfi]
    simp [firstI]
  have h := of_decide_eq_true h
  have hlt : k < l.length := by omega
  refine G.skip ?_
  refine G.seq (G.block ?_)
  refine G.seqR tfine rfl trivial ?_
  refine G.seqC tfine rfl ⟨by simpa using hlt, by omega, by omega, trivial⟩ ?_
  rw [Int.toNat_natCast]
  refine GO.callPlain rfl rfl rfl rfl hcf (fun ρ w hm _ => hf _ w) (GO.nil ?_)
  have hs : l.length - k = (l.length - (k + 1)) + 1 := by omega
  rw [hs, firstI] at hfi
  refine G.cond rfl (fun h2 => ?_) (fun h2 => ?_)
  · refine G.seqR tfine rfl trivial ?_
    refine G.ret (endK.ret rfl ?_)
    rw [hfi, if_pos h2]
  · refine G.skip ?_
    refine G.reg tfine rfl trivial ?_
    rw [IntWalk.i64_in _ (by omega)]
    rw [if_neg (by simpa using h2)] at hfi
    exact ⟨k + 1, ⟨by omega, hfi⟩, (by show l.length - (k + 1) < l.length - k; omega), St.le_of rfl ⟨⟨_, rfl, Blk.le_refl _⟩, trivial⟩ ⟨rfl, rfl, rfl, by simp [up, I], trivial⟩⟩
theorem containsFunc_any (f : FuncId) (q : Int → Bool) (hcf : ∀ args w, (callFunc f args).run Try.prog w = .ok (.enter f args) w)
    (hf : ∀ v w, Calls Try.prog f #[I v] w fun e w' => e = .returned (.bool (q v)) ∧ Below w.heap.size w w') (A : Option Addr) (c : Nat) (l : List Int) (w : World) (hl : RdRow w A l.length 1 (elI l)) (hm : l.length ≤ 4611686018427387904) :
    Calls Try.prog 21 #[.slice A l.length c, .func (.func f) #[] #[]] w fun e w' => e = .returned (.bool (decide (firstI (fun k => q (l.getD k 0)) 0 l.length ≥ 0))) ∧ Below w.heap.size w w' := by
  refine enterPlain tfine Try.func21 rfl 9 Try.ntmps21 [.c (.inp 1000 A l.length c), .c (.k (.func (.func f) #[] #[]))] [⟨1000, A, 1, l.length, elI l⟩] rfl rfl ⟨hl, trivial⟩ ⟨.inl ⟨rfl, rfl, rfl⟩, trivial, trivial⟩ ?_
  refine G.seqR tfine rfl trivial ?_
  refine G.seqC tfine rfl trivial ?_
  refine GO.callPlain rfl rfl rfl rfl (fun args w => Try.call65 args w) (fun ρ w hs hok => indexFunc_any f q hcf hf A c l w (hs.row rfl (hok _ List.mem_cons_self)) hm) ?_
  refine GO.fin tfine rfl trivial ?_
  exact G.ret (endK.ret rfl rfl)
theorem firstI_any (p : Nat → Bool) (k m : Nat) : decide (firstI p k m ≥ 0) = (List.range' k m).any p := by
  induction m generalizing k with
  | zero => rfl
  | succ m ih =>
    rw [firstI, List.range'_succ, List.any_cons, ← ih]
    cases p k with
    | true => simp
    | false => simp
end Go.Proofs.Ytafhnfcahhlanaa
/- Chapter 02: the total of the program. -/
set_option linter.unusedVariables false
set_option linter.unusedSimpArgs false
namespace Go.Proofs.Ytafhnfcahhlanaa
open Go.Sx Go.RowKit
def SR (l : List Int) (b rule : Int) : Int := (l.map fun n => rndR n b rule).sum
theorem SatM.var {E : Env} {ρ : Val} {m : Mem} {w : World} (h : SatM E ρ m w) {x : Nat} {ty : TypeId} {cs : List Value} (hx : m x = some (.var ty (cs.map .k))) : (ρ x).2 = 0 ∧ w.heap[(ρ x).1]? = some (.cells cs.toArray ty (0, 0)) := by
  have := h.ok x _ hx
  exact ⟨this.1, by rw [this.2.2.1, map_conc_k]⟩
end Go.Proofs.Ytafhnfcahhlanaa
/- Chapter 02: the words of the rules, in the program and in the reference. -/
set_option linter.unusedVariables false
set_option linter.unusedSimpArgs false
namespace Go.Proofs.Ytafhnfcahhlanaa
open Go.Sx Go.RowKit
abbrev w0 : ByteArray := ⟨#[]⟩
end Go.Proofs.Ytafhnfcahhlanaa
/- Chapter 02: the product of two words, and the quotient of two words whose first is nothing. -/
set_option linter.unusedVariables false
set_option linter.unusedSimpArgs false
namespace Go.Proofs.Ytafhnfcahhlanaa
open Go.Sx Go.RowKit
abbrev U (n : Int) : Value := .int .u64 n
theorem andLow (n : Nat) (h : n < 18446744073709551616) : bitsOp .and .u64 (n : Int) 4294967295 = ((n % 4294967296 : Nat) : Int) := by
  show IntKind.u64.wrap (((BitVec.ofInt 64 (n : Int) &&& BitVec.ofInt 64 4294967295).toNat : Nat) : Int) = _
  rw [BitVec.ofInt_natCast, show BitVec.ofInt 64 4294967295 = BitVec.ofNat 64 4294967295 from rfl, BitVec.toNat_and, BitVec.toNat_ofNat, BitVec.toNat_ofNat, Nat.mod_eq_of_lt (show n < 2 ^ 64 by omega), show 4294967295 % 2 ^ 64 = 2 ^ 32 - 1 by rfl, Nat.and_two_pow_sub_one_eq_mod]
  rw [IntKind.wrap_u64]; omega
theorem shr32 (n : Nat) : ((n : Int).fdiv (2 ^ (min (32 : Int).toNat IntKind.u64.bits))) = ((n / 4294967296 : Nat) : Int) := by
  have : (2 : Int) ^ (min (32 : Int).toNat IntKind.u64.bits) = 4294967296 := rfl
  rw [this, Int.fdiv_eq_ediv_of_nonneg _ (by decide)]
  omega
theorem wrapU (n : Nat) (h : n < 18446744073709551616) : IntKind.u64.wrap (n : Int) = (n : Int) := by rw [IntKind.wrap_u64]; omega
theorem mulU (a b : Nat) (h : a * b < 18446744073709551616) : IntKind.u64.wrap ((a : Int) * (b : Int)) = ((a * b : Nat) : Int) := by rw [← Int.natCast_mul, wrapU _ h]
theorem mulW (a b : Nat) : IntKind.u64.wrap ((a : Int) * (b : Int)) = ((a * b % 18446744073709551616 : Nat) : Int) := by rw [← Int.natCast_mul, IntKind.wrap_u64]; omega
theorem addU (a b : Nat) (h : a + b < 18446744073709551616) : IntKind.u64.wrap ((a : Int) + (b : Int)) = ((a + b : Nat) : Int) := by rw [← Int.natCast_add, wrapU _ h]
theorem mul64_any (x y : Nat) (hx : x < 18446744073709551616) (hy : y < 18446744073709551616) (w : World) :
    Calls Try.prog 92 #[U x, U y] w fun e w' => e = .returned (.tuple #[U (x * y / 18446744073709551616 : Nat), U (x * y % 18446744073709551616 : Nat)]) ∧ Below w.heap.size w w' := by
  obtain ⟨h1, h2, h3, h4⟩ := Go.Lib.mul64_hi x y hx hy
  have hbx : x % 4294967296 ≤ 4294967295 := by omega
  have hby : y % 4294967296 ≤ 4294967295 := by omega
  have ha := Go.Lib.half_mul_le (a := x / 4294967296) (b := y / 4294967296) (by omega) (by omega)
  have hb := Go.Lib.half_mul_le (a := x / 4294967296) (b := y % 4294967296) (by omega) (by omega)
  have hc := Go.Lib.half_mul_le (a := x % 4294967296) (b := y / 4294967296) (by omega) (by omega)
  refine enterPlain tfine Try.func92 rfl 51 Try.ntmps92 [.c (.k (U x)), .c (.k (U y))] [] rfl rfl trivial ⟨trivial, trivial, trivial⟩ ?_
  refine G.seqR tfine rfl trivial ?_
  refine G.seqR tfine rfl trivial ?_
  rw [andLow x hx]
  refine G.seqR tfine rfl ⟨by decide, trivial⟩ ?_
  rw [shr32]
  refine G.seqR tfine rfl trivial ?_
  rw [andLow y hy]
  refine G.seqR tfine rfl ⟨by decide, trivial⟩ ?_
  rw [shr32]
  refine G.seqR tfine rfl trivial ?_
  rw [mulU _ _ h1]
  refine G.seqR tfine rfl ⟨by decide, trivial⟩ ?_
  rw [mulU _ _ (by omega), shr32, addU _ _ h2]
  refine G.seqR tfine rfl trivial ?_
  rw [andLow _ h2]
  refine G.seqR tfine rfl ⟨by decide, trivial⟩ ?_
  rw [shr32]
  refine G.seqR tfine rfl trivial ?_
  rw [mulU _ _ (by omega), addU _ _ h3]
  refine G.seqR tfine rfl ⟨by decide, trivial⟩ ?_
  rw [mulU _ _ (by omega), shr32, addU _ _ (by omega), addU _ _ (by rw [h4]; exact Nat.div_lt_of_lt_mul (Nat.mul_lt_mul'' hx hy)), h4]
  refine G.seqR tfine rfl trivial ?_
  rw [mulW]
  exact G.ret (endK.ret rfl rfl)
end Go.Proofs.Ytafhnfcahhlanaa
/- Chapter 02: the copy of a row. -/
set_option linter.unusedVariables false
set_option linter.unusedSimpArgs false
namespace Go.Proofs.Ytafhnfcahhlanaa
open Go.Sx Go.RowKit
theorem info3 : (Try.prog.info? 3).map (fun i => (i.zero, i.size, i.bytes)) = some (some (.int .i64 0), 1, 8) := by kernel_rfl
theorem apT35 : ApT Try.prog 22 3 1 8 (.int .i64 0) := ⟨Try.underlying22, info3, rfl, by decide⟩
end Go.Proofs.Ytafhnfcahhlanaa
/- Chapter 27: sums of products, comparison of fractions. -/
set_option linter.unusedVariables false
set_option linter.unusedSimpArgs false
set_option maxRecDepth 8000
set_option maxHeartbeats 1000000
namespace Go.Proofs.Ytafhnfcahhlanaa
open Go.Sx Go.RowKit
abbrev W (n : Int) : Int := IntKind.i64.wrap n
def dotN (a b : Nat → Int) : Nat → Int
  | 0 => 0
  | k + 1 => W (dotN a b k + W (a k * b k))
def dotL (a b : List Int) : Int := dotN (fun k => a.getD k 0) (fun k => b.getD k 0) a.length
theorem dot_any (A B : Option Addr) (c d : Nat) (a b : List Int) (w : World) (hA : RdRow w A a.length 1 (elI a)) (hB : RdRow w B b.length 1 (elI b)) (hab : a.length ≤ b.length) (hn : b.length < 4611686018427387904) :
    Calls Try.prog 39 #[.slice A a.length c, .slice B b.length d] w fun e w' => e = .returned (I (dotL a b)) ∧ Below w.heap.size w w' := by
  refine enterPlain tfine Try.func39 rfl 25 Try.ntmps39 [.c (.inp 1000 A a.length c), .c (.inp 1001 B b.length d)] [⟨1000, A, 1, a.length, elI a⟩, ⟨1001, B, 1, b.length, elI b⟩] rfl rfl ⟨hA, hB, trivial⟩ ⟨.inl ⟨rfl, rfl, rfl⟩, .inr ⟨nx rfl, .inl ⟨rfl, rfl, rfl⟩⟩, trivial⟩ ?_
  refine G.seqR tfine rfl trivial ?_
  refine G.seqR tfine rfl trivial ?_
  refine G.seq ?_
  refine G.seqR tfine rfl trivial ?_
  refine G.block (G.loop (fun k : Nat => St.of [(1, .v (.c (.inp 1001 B b.length d))), (5, .v (.c (.k (I (dotN (fun k => a.getD k 0) (fun k => b.getD k 0) k))))), (8, .v (.c (.inp 1000 A a.length c))), (9, .v (.c (.k (I a.length)))), (10, .v (.c (.k (I k))))] [(1000, .ro 1 a.length (elI a)), (1001, .ro 1 b.length (elI b))])
    (fun k => k ≤ a.length) (fun k => a.length - k) 0 (by omega) (St.le_of rfl ⟨⟨_, rfl, Blk.le_refl _⟩, ⟨_, rfl, Blk.le_refl _⟩, trivial⟩ ⟨rfl, rfl, rfl, rfl, rfl, trivial⟩) ?_)
  rintro k hk
  refine G.seqR tfine rfl trivial ?_
  refine G.seq ?_
  refine G.cond (b := decide ((k : Int) < (a.length : Int))) rfl (fun h2 => ?_) (fun h2 => ?_)
  rotate_left
  · have h2 := of_decide_eq_false h2
    have : k = a.length := by omega
    subst this
    refine G.exit ?_
    refine G.seqR tfine rfl trivial ?_
    exact G.ret (endK.ret rfl rfl)
  have h2 := of_decide_eq_true h2
  have hlt : k < a.length := by omega
  refine G.skip ?_
  refine G.seq ?_
  refine G.block ?_
  refine G.seqR tfine rfl ⟨by omega, by omega, by omega, trivial⟩ ?_
  rw [Int.toNat_natCast]
  refine G.reg tfine rfl ⟨by omega, by omega, by omega, trivial⟩ ?_
  rw [Int.toNat_natCast]
  refine G.reg tfine rfl trivial ?_
  rw [IntWalk.i64_in ((k : Int) + 1) (by omega)]
  exact ⟨k + 1, by omega, (by show a.length - (k + 1) < a.length - k; omega), St.le_of rfl ⟨⟨_, rfl, Blk.le_refl _⟩, ⟨_, rfl, Blk.le_refl _⟩, trivial⟩ ⟨rfl, rfl, rfl, rfl, by simp [up, I], trivial⟩⟩
/-! ### Comparison -/
def toU (a : Int) : Nat := (a % 18446744073709551616).toNat
theorem toU_lt (a : Int) : toU a < 18446744073709551616 := by unfold toU; omega
theorem toU_wrap (a : Int) : IntKind.u64.wrap a = (toU a : Int) := by rw [IntKind.wrap_u64]; unfold toU; omega
def sgnU (p q : Nat) : Int := if p < q then -1 else if q < p then 1 else 0
theorem isNaNu_any (n : Nat) (w : World) : Calls Try.prog 105 #[.int .u64 n] w fun e w' => e = .returned (.bool false) ∧ Below w.heap.size w w' := by
  refine enterPlain tfine Try.func105 rfl 6 Try.ntmps105 [.c (.k (.int .u64 n))] [] rfl rfl trivial ⟨trivial, trivial⟩ ?_
  refine G.seqR tfine rfl trivial ?_
  refine G.seqR tfine rfl trivial ?_
  exact G.ret (endK.ret rfl (by simp))
theorem cmpu_any (p q : Nat) (w : World) : Calls Try.prog 100 #[.int .u64 p, .int .u64 q] w fun e w' => e = .returned (I (sgnU p q)) ∧ Below w.heap.size w w' := by
  refine enterPlain tfine Try.func100 rfl 20 Try.ntmps100 [.c (.k (.int .u64 p)), .c (.k (.int .u64 q))] [] rfl rfl trivial ⟨trivial, trivial, trivial⟩ ?_
  refine G.seqR tfine rfl trivial ?_
  refine G.seqC tfine rfl trivial ?_
  refine GO.callPlain rfl rfl rfl rfl (fun args w => Try.call105 args w) (fun ρ w _ _ => isNaNu_any p w) ?_
  refine GO.fin tfine rfl trivial ?_
  refine G.seqC tfine rfl trivial ?_
  refine GO.callPlain rfl rfl rfl rfl (fun args w => Try.call105 args w) (fun ρ w _ _ => isNaNu_any q w) ?_
  refine GO.fin tfine rfl trivial ?_
  refine G.seq (G.seqR tfine rfl trivial ?_)
  refine G.cond_false rfl ?_
  refine G.skip ?_
  refine G.seq (G.seqR tfine rfl trivial ?_)
  refine G.cond_false rfl ?_
  refine G.skip ?_
  refine G.seq (G.seqR tfine rfl trivial ?_)
  refine G.cond (b := decide ((p : Int) < (q : Int))) rfl (fun h => ?_) (fun h => ?_)
  · have h := of_decide_eq_true h
    refine G.seqR tfine rfl trivial ?_
    exact G.ret (endK.ret rfl (by rw [sgnU, if_pos (by omega)]))
  have h := of_decide_eq_false h
  refine G.skip ?_
  refine G.seq (G.seqR tfine rfl trivial ?_)
  refine G.cond (b := decide ((p : Int) > (q : Int))) rfl (fun h2 => ?_) (fun h2 => ?_)
  · have h2 := of_decide_eq_true h2
    refine G.seqR tfine rfl trivial ?_
    exact G.ret (endK.ret rfl (by rw [sgnU, if_neg (by omega), if_pos (by omega)]))
  have h2 := of_decide_eq_false h2
  refine G.skip ?_
  refine G.seqR tfine rfl trivial ?_
  exact G.ret (endK.ret rfl (by rw [sgnU, if_neg (by omega), if_neg (by omega)]))
def elU (l : List Nat) (i : Nat) : List Value := [.int .u64 (l.getD i 0)]
def lexU (a b : List Nat) : Nat → Nat → Int
  | _, 0 => 0
  | k, n + 1 => if sgnU (a.getD k 0) (b.getD k 0) ≠ 0 then sgnU (a.getD k 0) (b.getD k 0) else lexU a b (k + 1) n
theorem compareU_any (A B : Option Addr) (c d : Nat) (a b : List Nat) (w : World) (hA : RdRow w A 2 1 (elU a)) (hB : RdRow w B 2 1 (elU b)) :
    Calls Try.prog 93 #[.slice A 2 c, .slice B 2 d] w fun e w' => e = .returned (I (lexU a b 0 2)) ∧ Below w.heap.size w w' := by
  refine enterPlain tfine Try.func93 rfl 36 Try.ntmps93 [.c (.inp 1000 A 2 c), .c (.inp 1001 B 2 d)] [⟨1000, A, 1, 2, elU a⟩, ⟨1001, B, 1, 2, elU b⟩] rfl rfl ⟨hA, hB, trivial⟩ ⟨.inl ⟨rfl, rfl, rfl⟩, .inr ⟨nx rfl, .inl ⟨rfl, rfl, rfl⟩⟩, trivial⟩ ?_
  refine G.seqR tfine rfl trivial ?_
  refine G.seq ?_
  refine G.seqR tfine rfl trivial ?_
  refine G.block (G.loop (fun k : Nat => St.of [(0, .v (.c (.inp 1000 A 2 c))), (1, .v (.c (.inp 1001 B 2 d))), (9, .v (.c (.inp 1000 A 2 c))), (10, .v (.c (.k (I 2)))), (11, .v (.c (.k (I k))))] [(1000, .ro 1 2 (elU a)), (1001, .ro 1 2 (elU b))])
    (fun k => k ≤ 2 ∧ lexU a b 0 2 = lexU a b k (2 - k)) (fun k => 2 - k) 0 ⟨by omega, rfl⟩ (St.le_of rfl ⟨⟨_, rfl, Blk.le_refl _⟩, ⟨_, rfl, Blk.le_refl _⟩, trivial⟩ ⟨rfl, rfl, rfl, rfl, rfl, trivial⟩) ?_)
  rintro k ⟨hk, hr⟩
  refine G.seqR tfine rfl trivial ?_
  refine G.seq ?_
  refine G.cond (b := decide ((k : Int) < 2)) rfl (fun h2 => ?_) (fun h2 => ?_)
  rotate_left
  · have h2 := of_decide_eq_false h2
    have : k = 2 := by omega
    subst this
    refine G.exit ?_
    refine G.seq (G.seqR tfine rfl trivial ?_)
    refine G.cond_false rfl ?_
    refine G.skip ?_
    refine G.seqR tfine rfl trivial ?_
    exact G.ret (endK.ret rfl (by rw [hr]; rfl))
  have h2 := of_decide_eq_true h2
  have hlt : k < 2 := by omega
  refine G.skip ?_
  refine G.seq ?_
  refine G.block ?_
  refine G.seqR tfine rfl ⟨by omega, by omega, by omega, trivial⟩ ?_
  rw [Int.toNat_natCast]
  refine G.seq (G.seqR tfine rfl trivial ?_)
  refine G.cond (b := decide ((k : Int) ≥ 2)) rfl (fun h => by have := of_decide_eq_true h; omega) (fun h => ?_)
  refine G.skip ?_
  refine G.seqR tfine rfl ⟨by omega, by omega, by omega, trivial⟩ ?_
  rw [Int.toNat_natCast]
  refine G.seqC tfine rfl trivial ?_
  refine GO.callPlain rfl rfl rfl rfl (fun args w => Try.call100 args w) (fun ρ w _ _ => cmpu_any (a.getD k 0) (b.getD k 0) w) ?_
  refine GO.fin tfine rfl trivial ?_
  have hs : 2 - k = (2 - (k + 1)) + 1 := by omega
  have hl : lexU a b k (2 - (k + 1) + 1) = if sgnU (a.getD k 0) (b.getD k 0) ≠ 0 then sgnU (a.getD k 0) (b.getD k 0) else lexU a b (k + 1) (2 - (k + 1)) := rfl
  rw [hs, hl] at hr
  refine G.seqR tfine rfl trivial ?_
  refine G.cond (b := sgnU (a.getD k 0) (b.getD k 0) != 0) rfl (fun h => ?_) (fun h => ?_)
  · rw [if_pos (by simpa using h)] at hr
    refine G.seqR tfine rfl trivial ?_
    exact G.ret (endK.ret rfl (by rw [hr]))
  rw [if_neg (by simpa using h)] at hr
  refine G.skip ?_
  refine G.reg tfine rfl trivial ?_
  rw [IntWalk.i64_in ((k : Int) + 1) (by omega)]
  exact ⟨k + 1, ⟨by omega, hr⟩, (by show 2 - (k + 1) < 2 - k; omega), St.le_of rfl ⟨⟨_, rfl, Blk.le_refl _⟩, ⟨_, rfl, Blk.le_refl _⟩, trivial⟩ ⟨rfl, rfl, rfl, rfl, by simp [up, I], trivial⟩⟩
theorem lexU_words (p q : Nat) : lexU [p / 18446744073709551616, p % 18446744073709551616] [q / 18446744073709551616, q % 18446744073709551616] 0 2 = sgnU p q := by
  simp only [lexU, List.getD_cons_zero, List.getD_cons_succ, Nat.zero_add]
  unfold sgnU
  have h1 := Nat.div_add_mod p 18446744073709551616
  have h2 := Nat.div_add_mod q 18446744073709551616
  have h3 : p % 18446744073709551616 < 18446744073709551616 := Nat.mod_lt _ (by decide)
  have h4 : q % 18446744073709551616 < 18446744073709551616 := Nat.mod_lt _ (by decide)
  generalize p / 18446744073709551616 = p1 at *
  generalize p % 18446744073709551616 = p0 at *
  generalize q / 18446744073709551616 = q1 at *
  generalize q % 18446744073709551616 = q0 at *
  repeat' split
  all_goals first | rfl | omega | (exfalso; simp_all; omega)
def cmpU (a b c d : Int) : Int := sgnU (toU a * toU d) (toU c * toU b)
def cmp0 (a b c d : Int) : Int := if a < 0 then -1 else if c < 0 then 1 else cmpU a b c d
def cmpM (a b c d : Int) : Int := if a < 0 ∧ c < 0 then cmp0 (W (0 - c)) d (W (0 - a)) b else cmp0 a b c d
theorem cmp0_any (a b c d : Int) (w : World) (h : ¬ (a < 0 ∧ c < 0)) :
    Calls Try.prog 72 #[I a, I b, I c, I d] w fun e w' => e = .returned (I (cmp0 a b c d)) ∧ Below w.heap.size w w' := by
  refine enterPlain tfine Try.func72 rfl 57 Try.ntmps72 [.c (.k (I a)), .c (.k (I b)), .c (.k (I c)), .c (.k (I d))] [] rfl rfl trivial ⟨trivial, trivial, trivial, trivial, trivial⟩ ?_
  refine G.seqR tfine rfl trivial ?_
  refine G.seq (G.seqR tfine rfl ?_ ?_)
  · first | trivial | (simp [AllP, condB]; done) | (simp only [AllP]; and_intros <;> first | trivial | decide | omega) | (simp [AllP, condB]; intros; and_intros <;> first | assumption | omega) | (simp [AllP, condB]; intros; simp_all; done)
  refine G.cond (b := decide (a < 0) && decide (c < 0)) rfl (fun h2 => absurd (by simpa using h2) h) (fun h2 => ?_)
  refine G.skip ?_
  refine G.seq (G.seqR tfine rfl ?_ ?_)
  · first | trivial | (simp [AllP, condB]; done) | (simp only [AllP]; and_intros <;> first | trivial | decide | omega) | (simp [AllP, condB]; intros; and_intros <;> first | assumption | omega) | (simp [AllP, condB]; intros; simp_all; done)
  refine G.cond (b := decide (a < 0) || decide (c < 0)) rfl (fun h2 => ?_) (fun h2 => ?_)
  · refine G.seq (G.seqR tfine rfl trivial ?_)
    refine G.cond (b := decide (a < 0)) rfl (fun h3 => ?_) (fun h3 => ?_)
    · have h3 := of_decide_eq_true h3
      refine G.seqR tfine rfl trivial ?_
      exact G.ret (endK.ret rfl (by rw [cmp0, if_pos h3]))
    · have h3 := of_decide_eq_false h3
      refine G.skip ?_
      refine G.seqR tfine rfl trivial ?_
      have h4 : c < 0 := by simpa [h3] using h2
      exact G.ret (endK.ret rfl (by rw [cmp0, if_neg h3, if_pos h4]))
  have h3 : ¬ a < 0 := fun h => by simp [h] at h2
  have h4 : ¬ c < 0 := fun h => by simp [h] at h2
  refine G.skip ?_
  refine G.seqC tfine rfl trivial ?_
  rw [toU_wrap, toU_wrap]
  refine GO.callPlain rfl rfl rfl rfl (fun args w => Try.call92 args w) (fun ρ w _ _ => mul64_any (toU a) (toU d) (toU_lt _) (toU_lt _) w) ?_
  refine GO.fin tfine rfl trivial ?_
  refine G.seqC tfine rfl trivial ?_
  rw [toU_wrap, toU_wrap]
  refine GO.callPlain rfl rfl rfl rfl (fun args w => Try.call92 args w) (fun ρ w _ _ => mul64_any (toU c) (toU b) (toU_lt _) (toU_lt _) w) ?_
  refine GO.fin tfine rfl trivial ?_
  refine G.seqC tfine rfl trivial ?_
  have hrd : ∀ p q : Nat, ∀ i, i < 2 → elU [p, q] i = (([.int .u64 p, .int .u64 q] : List Value).drop ((0 + i) * 1)).take 1 := by
    intro p q i hi
    match i, hi with
    | 0, _ => rfl
    | 1, _ => rfl
  refine GO.callPlain (v := I (lexU [toU a * toU d / 18446744073709551616, toU a * toU d % 18446744073709551616] [toU c * toU b / 18446744073709551616, toU c * toU b % 18446744073709551616] 0 2)) rfl rfl rfl rfl (fun args w => Try.call93 args w) (fun ρ w hs hok => ?_) ?_
  · exact compareU_any _ _ _ _ [toU a * toU d / 18446744073709551616, toU a * toU d % 18446744073709551616] [toU c * toU b / 18446744073709551616, toU c * toU b % 18446744073709551616] w ((hs.rdVar (vs := [.int .u64 (toU a * toU d / 18446744073709551616 : Nat), .int .u64 (toU a * toU d % 18446744073709551616 : Nat)]) rfl 0 2 (by show 2 * 1 ≤ 2; decide)).congr (hrd _ _)) ((hs.rdVar (vs := [.int .u64 (toU c * toU b / 18446744073709551616 : Nat), .int .u64 (toU c * toU b % 18446744073709551616 : Nat)]) rfl 0 2 (by show 2 * 1 ≤ 2; decide)).congr (hrd _ _))
  refine GO.fin tfine rfl trivial ?_
  exact G.ret (endK.ret rfl (by rw [lexU_words, cmp0, if_neg h3, if_neg h4, cmpU]))
theorem cmp_any (a b c d : Int) (w : World) (hm : -9223372036854775808 < a) :
    Calls Try.prog 72 #[I a, I b, I c, I d] w fun e w' => e = .returned (I (cmpM a b c d)) ∧ Below w.heap.size w w' := by
  by_cases hn : a < 0 ∧ c < 0
  rotate_left
  · have := cmp0_any a b c d w hn
    rwa [show cmpM a b c d = cmp0 a b c d from by rw [cmpM, if_neg hn]]
  refine enterPlain tfine Try.func72 rfl 57 Try.ntmps72 [.c (.k (I a)), .c (.k (I b)), .c (.k (I c)), .c (.k (I d))] [] rfl rfl trivial ⟨trivial, trivial, trivial, trivial, trivial⟩ ?_
  refine G.seqR tfine rfl trivial ?_
  refine G.seq (G.seqR tfine rfl ?_ ?_)
  · first | trivial | (simp [AllP, condB]; done) | (simp only [AllP]; and_intros <;> first | trivial | decide | omega) | (simp [AllP, condB]; intros; and_intros <;> first | assumption | omega) | (simp [AllP, condB]; intros; simp_all; done)
  refine G.cond (b := decide (a < 0) && decide (c < 0)) rfl (fun h2 => ?_) (fun h2 => absurd h2 (by simp [hn.1, hn.2]))
  have h : ¬ W (0 - a) < 0 := by
    have hb : (a : Int) < 0 := hn.1
    rw [W, IntWalk.i64_in _ (by omega)]
    omega
  refine G.seqC tfine rfl trivial ?_
  refine GO.callPlain (v := I (cmp0 (W (0 - c)) d (W (0 - a)) b)) rfl rfl rfl rfl (fun args w => Try.call72 args w) (fun ρ w _ _ => ?_) ?_
  · have := cmp0_any (W (0 - c)) d (W (0 - a)) b w (fun h3 => h h3.2)
    exact this
  refine GO.fin tfine rfl trivial ?_
  exact G.ret (endK.ret rfl (by rw [cmpM, if_pos hn]))
end Go.Proofs.Ytafhnfcahhlanaa
/- Chapter 27: divisors, ranges, lists of numbers. -/
set_option linter.unusedVariables false
set_option linter.unusedSimpArgs false
set_option maxRecDepth 8000
set_option maxHeartbeats 1000000
namespace Go.Proofs.Ytafhnfcahhlanaa
open Go.Sx Go.RowKit
/-! ### The greatest common divisor -/
def absW (x : Int) : Int := if W (0 - x) > x then W (0 - x) else x
def divN (l : List Int) : Nat → Nat
  | 0 => 0
  | k + 1 => Nat.gcd (divN l k) (absW (l.getD k 0)).toNat
def divM (l : List Int) : Nat := divN l l.length
theorem gcd_step {g x : Nat} (hx : 0 < x) : Nat.gcd x (g % x) = Nat.gcd g x := by
  rw [Nat.gcd_comm x (g % x), ← Nat.gcd_rec, Nat.gcd_comm]
theorem tmod_nat (g x : Nat) : Int.tmod (g : Int) (x : Int) = ((g % x : Nat) : Int) := by
  rw [Int.ofNat_tmod]
theorem div_any (A : Option Addr) (c : Nat) (l : List Int) (w : World) (hA : RdRow w A l.length 1 (elI l)) (hn : l.length < 4611686018427387904) :
    Calls Try.prog 83 #[.slice A l.length c] w fun e w' => e = .returned (I (divM l)) ∧ Below w.heap.size w w' := by
  refine enterPlain tfine Try.func83 rfl 24 Try.ntmps83 [.c (.inp 1000 A l.length c)] [⟨1000, A, 1, l.length, elI l⟩] rfl rfl ⟨hA, trivial⟩ ⟨.inl ⟨rfl, rfl, rfl⟩, trivial⟩ ?_
  refine G.seqR tfine rfl trivial ?_
  refine G.seqR tfine rfl trivial ?_
  refine G.seq ?_
  refine G.seqR tfine rfl trivial ?_
  refine G.block (G.loop (fun k : Nat => St.of [(3, .v (.c (.k (I (divN l k))))), (6, .v (.c (.inp 1000 A l.length c))), (7, .v (.c (.k (I l.length)))), (8, .v (.c (.k (I k))))] [(1000, .ro 1 l.length (elI l))])
    (fun k => k ≤ l.length) (fun k => l.length - k) 0 (by omega) (St.le_of rfl ⟨⟨_, rfl, Blk.le_refl _⟩, trivial⟩ ⟨rfl, rfl, rfl, rfl, trivial⟩) ?_)
  rintro k hk
  refine G.seqR tfine rfl trivial ?_
  refine G.seq ?_
  refine G.cond (b := decide ((k : Int) < (l.length : Int))) rfl (fun h2 => ?_) (fun h2 => ?_)
  rotate_left
  · have h2 := of_decide_eq_false h2
    have : k = l.length := by omega
    subst this
    refine G.exit ?_
    refine G.seqR tfine rfl trivial ?_
    exact G.ret (endK.ret rfl rfl)
  have h2 := of_decide_eq_true h2
  have hlt : k < l.length := by omega
  refine G.skip ?_
  refine G.seq ?_
  refine G.block ?_
  refine G.seqR tfine rfl ⟨by omega, by omega, by omega, trivial⟩ ?_
  rw [Int.toNat_natCast]
  refine G.seqR tfine rfl trivial ?_
  refine G.block (G.loop (fun z : Nat × Int => St.of [(3, .v (.c (.k (I z.1)))), (5, .v (.c (.k (I z.2)))), (6, .v (.c (.inp 1000 A l.length c))), (7, .v (.c (.k (I l.length)))), (8, .v (.c (.k (I k))))] [(1000, .ro 1 l.length (elI l))])
    (fun z => Nat.gcd z.1 z.2.toNat = divN l (k + 1)) (fun z => z.2.toNat) (divN l k, absW (l.getD k 0)) rfl (St.le_of rfl ⟨⟨_, rfl, Blk.le_refl _⟩, trivial⟩ ⟨rfl, rfl, rfl, rfl, rfl, trivial⟩) ?_)
  rintro ⟨g, x⟩ hg
  simp only at hg
  refine G.seq (G.seqR tfine rfl trivial ?_)
  refine G.cond (b := decide (x > 0)) rfl (fun h3 => ?_) (fun h3 => ?_)
  rotate_left
  · have h3 := of_decide_eq_false h3
    have hx0 : x.toNat = 0 := by omega
    rw [hx0, Nat.gcd_zero_right] at hg
    refine G.exit ?_
    refine G.reg tfine rfl trivial ?_
    rw [IntWalk.i64_in ((k : Int) + 1) (by omega)]
    exact ⟨k + 1, by omega, (by show l.length - (k + 1) < l.length - k; omega), St.le_of rfl ⟨⟨_, rfl, Blk.le_refl _⟩, trivial⟩ ⟨by rw [← hg]; rfl, rfl, rfl, by simp [up, I], trivial⟩⟩
  have h3 := of_decide_eq_true h3
  obtain ⟨X, rfl⟩ : ∃ X : Nat, x = X := ⟨x.toNat, by omega⟩
  refine G.skip ?_
  refine G.block ?_
  refine G.regD tfine hmix [0, 0, 0, 6, 3, 31] [] rfl rfl rfl rfl ⟨by omega, trivial⟩ ?_
  have e : Int.tmod (g : Int) (X : Int) = ((g % X : Nat) : Int) := tmod_nat g X
  rw [Int.toNat_natCast] at hg
  exact ⟨(X, ((g % X : Nat) : Int)), by simp only; rw [Int.toNat_natCast, gcd_step (by omega)]; exact hg, by show (((g % X : Nat) : Int)).toNat < (X : Int).toNat; rw [Int.toNat_natCast, Int.toNat_natCast]; exact Nat.mod_lt _ (by omega), St.le_of rfl ⟨⟨_, rfl, Blk.le_refl _⟩, trivial⟩ ⟨rfl, by rw [← e]; rfl, rfl, rfl, rfl, trivial⟩⟩
/-! ### Ratios in range -/
def inB (n : Int) : Bool := decide (n < -35184372088832) || decide (n > 35184372088832)
theorem inB_any (n : Int) (w : World) : Calls Try.prog 91 #[I n] w fun e w' => e = .returned (.bool (inB n)) ∧ Below w.heap.size w w' := by
  refine enterPlain tfine Try.func91 rfl 9 Try.ntmps91 [.c (.k (I n))] [] rfl rfl trivial ⟨trivial, trivial⟩ ?_
  refine G.seqR tfine rfl trivial ?_
  refine G.seqR tfine rfl ?_ ?_
  · first | trivial | (simp [AllP, condB]; done) | (simp only [AllP]; and_intros <;> first | trivial | decide | omega) | (simp [AllP, condB]; intros; and_intros <;> first | assumption | omega) | (simp [AllP, condB]; intros; simp_all; done)
  exact G.ret (endK.ret rfl rfl)
def anyB (l : List Int) : Bool := decide (firstI (fun k => inB (l.getD k 0)) 0 l.length ≥ 0)
def inM (l : List Int) (over : Int) : Bool := (decide (over ≥ 1) && decide (over ≤ 35184372088832)) && !(anyB l)
theorem in_any (A : Option Addr) (c : Nat) (l : List Int) (over : Int) (w : World) (hA : RdRow w A l.length 1 (elI l)) (hn : l.length < 4611686018427387904) :
    Calls Try.prog 70 #[.agg #[.slice A l.length c, I over]] w fun e w' => e = .returned (.bool (inM l over)) ∧ Below w.heap.size w w' := by
  refine enterPlain tfine Try.func70 rfl 17 Try.ntmps70 [.agg [.inp 1000 A l.length c, .k (I over)]] [⟨1000, A, 1, l.length, elI l⟩] rfl rfl ⟨hA, trivial⟩ ⟨⟨.inl ⟨rfl, rfl, rfl⟩, trivial, trivial⟩, trivial⟩ ?_
  refine G.seqR tfine rfl trivial ?_
  refine G.seqC tfine rfl ?_ ?_
  · first | trivial | (simp [AllP, condB]; done) | (simp only [AllP]; and_intros <;> first | trivial | decide | omega) | (simp [AllP, condB]; intros; and_intros <;> first | assumption | omega) | (simp [AllP, condB]; intros; simp_all; done)
  refine GO.callGuard (.bool (anyB l)) rfl rfl rfl (by first | exact trivial | exact ⟨id, trivial⟩ | exact ⟨id, id, trivial⟩ | exact ⟨id, id, id, trivial⟩ | exact ⟨id, id, id, id, trivial⟩) rfl rfl (fun args w => Try.call21 args w) rfl (fun _ m' hle ρ w hs hok => ?_) ?_
  · exact containsFunc_any 91 inB (fun args w => Try.call91 args w) inB_any A c l w (hs.row (cap := c) (hle.at rfl) (hok _ List.mem_cons_self)) (by omega)
  refine GO.fin tfine rfl ?_ ?_
  · first | trivial | (simp [AllP, condB]; done) | (simp only [AllP]; and_intros <;> first | trivial | decide | omega) | (simp [AllP, condB]; intros; and_intros <;> first | assumption | omega) | (simp [AllP, condB]; intros; simp_all; done)
  exact G.ret (endK.ret rfl rfl)
end Go.Proofs.Ytafhnfcahhlanaa
