/- The symbolic executor, part X: closures that read one captured variable (which may hold a slice that came in). Generic over P. -/
import Derived.Test.YtiicemgngccicaaSxW
set_option linter.unusedVariables false
set_option linter.unusedSimpArgs false
namespace Go.Sx
open Go.RowKit
def capV (l : List Inp) (g : Nat) (x : Nat) : Nat × Nat := bif Nat.beq x 1900 then (g, 0) else inpsV l x
def capM (l : List Inp) (ty : TypeId) (cells : List AC) (x : Nat) : Option Blk := bif Nat.beq x 1900 then some (.var ty cells) else lkM (inpsM l) x
def AC.cap (l : List Inp) : AC → Prop
  | .k _ => True
  | .inp x A len _ => inpIn l x A len
  | .ptr x _ _ _ => x = 1900
  | _ => False
def allACc (l : List Inp) : List AC → Prop
  | [] => True
  | a :: r => a.cap l ∧ allACc l r
def AV.cap (l : List Inp) : AV → Prop
  | .c a => a.cap l
  | .agg cs => allACc l cs
def allCaps (l : List Inp) : List AV → Prop
  | [] => True
  | a :: r => a.cap l ∧ allCaps l r
def apartG (g : Nat) : List Inp → Prop
  | [] => True
  | i :: r => i.x ≠ 1900 ∧ (0 < i.n → ∀ a, i.A = some a → a.block ≠ g) ∧ apartG g r
theorem allACc_mem {l : List Inp} {cs : List AC} (h : allACc l cs) : ∀ a ∈ cs, a.cap l := by
  induction cs with
  | nil => intro a ha; cases ha
  | cons b r ih =>
    intro a ha
    cases ha with
    | head => exact h.1
    | tail _ ha => exact ih h.2 a ha
theorem allAC_mem' {l : List Inp} {cs : List AC} (h : allAC l cs) : ∀ a ∈ cs, a.inps l := AV.inps_mem h
theorem conc_inps {l : List Inp} {cs : List AC} (h : allAC l cs) (ρ ρ' : Val) : cs.map (AC.conc ρ) = cs.map (AC.conc ρ') := by
  refine List.map_congr_left fun a ha => ?_
  have := allAC_mem' h a ha
  cases a with
  | k v => rfl
  | inp x A len cap => rfl
  | _ => cases this
theorem inpIn_ne {l : List Inp} {g : Nat} (h : apartG g l) {A : Option Addr} {len : Nat} : ¬ inpIn l 1900 A len := by
  induction l with
  | nil => exact id
  | cons i r ih =>
    rintro (⟨e, _⟩ | ⟨_, e⟩)
    · exact h.1 e
    · exact ih h.2.2 e
theorem lkM_ne {l : List Inp} {g : Nat} (h : apartG g l) : lkM (inpsM l) 1900 = none := by
  induction l with
  | nil => rfl
  | cons i r ih =>
    have hb : Nat.beq 1900 i.x = false := by
      cases hb : Nat.beq 1900 i.x with
      | false => rfl
      | true => exact absurd (Nat.eq_of_beq_eq_true hb).symm h.1
    simp only [inpsM, lkM, hb, cond_false]
    exact ih h.2.2
theorem apart_at {l : List Inp} {g : Nat} (h : apartG g l) {x n sz : Nat} {el : Nat → List Value} (hx : lkM (inpsM l) x = some (.ro sz n el)) {w : World} (hr : allRd w l) (h0 : 0 < n) : (inpsV l x).1 ≠ g := by
  induction l with
  | nil => cases hx
  | cons i r ih =>
    cases hb : Nat.beq x i.x with
    | true =>
      simp only [inpsM, lkM, hb, cond_true] at hx
      injection hx with hx
      injection hx with e1 e2 e3
      subst e2
      obtain ⟨b, o, e, _⟩ := hr.1 h0
      simp only [inpsV, hb, cond_true, e]
      exact h.2.1 h0 _ e
    | false =>
      simp only [inpsM, lkM, hb, cond_false] at hx
      simp only [inpsV, hb, cond_false]
      exact ih h.2.2 hx hr.2
theorem Sat.initCap {w : World} {N : Nat} {avs : List AV} {l : List Inp} {g : Nat} {ty : TypeId} {cells : List AC} (hr : allRd w l) (hap : apartG g l) (hcs : allAC l cells) (hg : w.heap[g]? = some (.cells (cells.map (AC.conc (capV l g))).toArray ty (0, 0)))
    (ha : allCaps l avs) {args : Array Value} (hargs : args = (avs.map (AV.conc (capV l g))).toArray) (hN : avs.length ≤ N) :
    Sat ⟨w, [(1900, g)], N⟩ (capV l g) ⟨argsT avs, capM l ty cells⟩ { tmps := args ++ Array.replicate (N - args.size) undef, defers := [] } w := by
  have v19 : capV l g 1900 = (g, 0) := by simp only [capV, Nat.beq_refl, cond_true]
  have m19 : capM l ty cells 1900 = some (.var ty cells) := by simp only [capM, Nat.beq_refl, cond_true]
  have vne : ∀ x, Nat.beq x 1900 = false → capV l g x = inpsV l x := fun x h => by simp only [capV, h, cond_false]
  have mne : ∀ x, Nat.beq x 1900 = false → capM l ty cells x = lkM (inpsM l) x := fun x h => by simp only [capM, h, cond_false]
  have hin : ∀ x A len cap, inpIn l x A len → AC.ok (capV l g) (capM l ty cells) (.inp x A len cap) := by
    intro x A len cap h
    have hb : Nat.beq x 1900 = false := by
      cases hb : Nat.beq x 1900 with
      | false => rfl
      | true => have := Nat.eq_of_beq_eq_true hb; subst this; exact absurd h (inpIn_ne hap)
    have := inp_ok (cap := cap) hr h
    refine ⟨by rw [mne x hb]; exact this.1, fun h0 => by rw [vne x hb]; exact this.2 h0⟩
  have hAC : ∀ a : AC, a.cap l → a.ok (capV l g) (capM l ty cells) := by
    intro a h
    cases a with
    | k v => trivial
    | inp x A len cap => exact hin x A len cap h
    | ptr x i sz off =>
      have : x = 1900 := h
      subst this
      show (capM l ty cells 1900).isSome = true
      rw [m19]; rfl
    | _ => cases h
  refine ⟨⟨Fr.refl _ _, fun p hp => ?_, fun x b hx => ?_, fun x y b c hx hy hb hc hne => ?_⟩, rfl, ?_, fun j => ?_⟩
  · simp only [List.mem_singleton] at hp
    subst hp
    exact ⟨v19, by show 1000 ≤ 1900; decide⟩
  · cases hb : Nat.beq x 1900 with
    | true =>
      have := Nat.eq_of_beq_eq_true hb
      subst this
      have hx : capM l ty cells 1900 = some b := hx
      rw [m19] at hx
      injection hx with hx
      subst hx
      refine ⟨by rw [v19], .inr (by rw [v19]; exact .head _), by rw [v19]; exact hg, fun a ha => ?_⟩
      have := allAC_mem' hcs a ha
      cases a with
      | k v => trivial
      | inp x A len cap => exact hin x A len cap this
      | _ => cases this
    | false =>
      have hx : capM l ty cells x = some b := hx
      rw [mne x hb] at hx
      obtain ⟨A, n, sz, el, rfl, h2, h3⟩ := lkM_inps hx hr
      intro h0
      obtain ⟨b, o, rfl, h4, h5⟩ := h2 h0
      rw [vne x hb, h3]
      exact ⟨h4, h5⟩
  · cases hbx : Nat.beq x 1900 with
    | true =>
      have := Nat.eq_of_beq_eq_true hbx
      subst this
      have hby : Nat.beq y 1900 = false := by
        cases hby : Nat.beq y 1900 with
        | false => rfl
        | true => exact absurd (Nat.eq_of_beq_eq_true hby).symm hne
      have hy : capM l ty cells y = some c := hy
      rw [mne y hby] at hy
      obtain ⟨A, n, sz, el, rfl, h2, h3⟩ := lkM_inps hy hr
      rw [vne y hby, v19]
      exact (apart_at hap hy hr hc).symm
    | false =>
      have hx : capM l ty cells x = some b := hx
      rw [mne x hbx] at hx
      obtain ⟨A, n, sz, el, rfl, _⟩ := lkM_inps hx hr
      exact hb.elim
  · subst hargs
    simp
    omega
  · show (argsT avs j).rep _ _ _
    unfold argsT
    cases hj : avs[j]? with
    | none => trivial
    | some a =>
      have hlt : j < avs.length := (List.getElem?_eq_some_iff.1 hj).1
      have hmem : a ∈ avs := List.mem_of_getElem? hj
      have hin : a.cap l := by
        clear hj hlt hargs hN
        induction avs with
        | nil => cases hmem
        | cons b r ih =>
          cases hmem with
          | head => exact ha.1
          | tail _ hm => exact ih ha.2 hm
      refine ⟨?_, ?_⟩
      · cases a with
        | c a => exact hAC a hin
        | agg cs => exact fun a h => hAC a (allACc_mem hin a h)
      · subst hargs
        simp only [Array.getD_eq_getD_getElem?]
        rw [Array.getElem?_append_left (by simpa using hlt)]
        simp [hj]
section
variable {P : Program} {T : Tab}
def endCap (T : Tab) (fn : Func) (v : Value) (ty : TypeId) (cells : List AC) : Exit → St → Prop := fun e st => (e = .ret ∨ e = .normal) ∧ resP T st fn.results.toList = .mk v ∧ st.m 1900 = some (.var ty cells)
theorem enterCap (hT : Tab.fine P T) {f : FuncId} {fn : Func} {c : Code} {args : Array Value} {w : World} {v : Value} {g : Nat} (ty : TypeId) (cells : List AC) (hf : P.funcs[f]? = some fn) (hb : fn.body = some c) (N : Nat) (hN : fn.ntmps = N) (avs : List AV) (l : List Inp) (hap : apartG g l)
    (hg : w.heap[g]? = some (.cells (cells.map (AC.conc (capV l g))).toArray ty (0, 0))) (hargs : args = (avs.map (AV.conc (capV l g))).toArray) (hl : Nat.ble avs.length N = true) (hr : allRd w l) (hcs : allAC l cells) (ha : allCaps l avs)
    (h : G P ⟨w, [(1900, g)], N⟩ (endCap T fn v ty cells) c ⟨argsT avs, capM l ty cells⟩) : Calls P f args w fun e w' => e = .returned v ∧ Below w.heap.size w w' := by
  subst hN
  refine enter (E := ⟨w, [(1900, g)], fn.ntmps⟩) hf hb (capV l g) (Sat.initCap hr hap hcs hg ha hargs (Nat.le_of_ble_eq_true hl)) (h.mono fun e st hk => ⟨hk.1, fun ρ a w' hs => ?_⟩)
  obtain ⟨_, h1, h2⟩ := hk
  refine ⟨v, results_run hT hs h1, rfl, ?_⟩
  have hfr := hs.mem.fr
  obtain ⟨_, _, h4, _⟩ := hs.mem.ok 1900 _ h2
  have hρ := (hs.mem.bo (1900, g) (.head _)).1
  simp only at hρ
  rw [hρ, conc_inps hcs ρ (capV l g)] at h4
  exact ⟨hfr.os, hfr.tape, hfr.output, hfr.size, fun k hk => by
    by_cases e : k = g
    · subst e; rw [h4, hg]
    · exact hfr.block k hk (by simpa using e)⟩
theorem endCap.ret {fn : Func} {v u : Value} {ty : TypeId} {cells : List AC} {st : St} (h : resP T st fn.results.toList = .mk u) (e : u = v) (h2 : st.m 1900 = some (.var ty cells)) : endCap T fn v ty cells .ret st := ⟨.inl rfl, h.trans (congrArg VR.mk e), h2⟩
end
end Go.Sx
