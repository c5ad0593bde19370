/- The symbolic executor, part AE: make of a row, lists that grow from an empty row on. Generic over P. -/
import Derived.Test.YtpoalimbjeehkaaGB2
import Derived.Laws.OwnMore
/- The symbolic executor, part AB: closures that read several captured variables (which may hold slices that came in). Generic over P. -/
set_option linter.unusedVariables false
set_option linter.unusedSimpArgs false
namespace Go.Sx
open Go.RowKit
structure Cb where
  x : Nat
  g : Nat
  ty : TypeId
  cells : List AC
def capsV (l : List Inp) (C : List Cb) (x : Nat) : Nat × Nat := match C with
  | [] => inpsV l x
  | b :: r => bif Nat.beq x b.x then (b.g, 0) else capsV l r x
def capsM (l : List Inp) (C : List Cb) (x : Nat) : Option Blk := match C with
  | [] => lkM (inpsM l) x
  | b :: r => bif Nat.beq x b.x then some (.var b.ty b.cells) else capsM l r x
def nameIn (C : List Cb) (x : Nat) : Prop := match C with
  | [] => False
  | b :: r => x = b.x ∨ nameIn r x
def AC.caps (l : List Inp) (C : List Cb) : AC → Prop
  | .k _ => True
  | .inp x A len _ => inpIn l x A len
  | .ptr x _ _ _ => nameIn C x
  | _ => False
def allACs (l : List Inp) (C : List Cb) : List AC → Prop
  | [] => True
  | a :: r => a.caps l C ∧ allACs l C r
def AV.caps (l : List Inp) (C : List Cb) : AV → Prop
  | .c a => a.caps l C
  | .agg cs => allACs l C cs
def allCapss (l : List Inp) (C : List Cb) : List AV → Prop
  | [] => True
  | a :: r => a.caps l C ∧ allCapss l C r
def lowI : List Inp → Prop
  | [] => True
  | i :: r => i.x < 1900 ∧ lowI r
def apartI (g : Nat) : List Inp → Prop
  | [] => True
  | i :: r => (0 < i.n → ∀ a, i.A = some a → a.block ≠ g) ∧ apartI g r
def allCb (p : Cb → Prop) : List Cb → Prop
  | [] => True
  | b :: r => p b ∧ allCb p r
theorem allCb_mem {p : Cb → Prop} {C : List Cb} (h : allCb p C) : ∀ b ∈ C, p b := by
  induction C with
  | nil => intro b hb; cases hb
  | cons c r ih =>
    intro b hb
    cases hb with
    | head => exact h.1
    | tail _ hb => exact ih h.2 b hb
def pairsCb : List Cb → Prop
  | [] => True
  | b :: r => allCb (fun c => b.x ≠ c.x ∧ b.g ≠ c.g) r ∧ pairsCb r
def Cb.fit (w : World) (l : List Inp) (b : Cb) : Prop := 1900 ≤ b.x ∧ apartI b.g l ∧ allAC l b.cells ∧ w.heap[b.g]? = some (.cells (b.cells.map (AC.conc fun _ => (0, 0))).toArray b.ty (0, 0))
theorem pairs_inj {C : List Cb} (h : pairsCb C) : ∀ b ∈ C, ∀ c ∈ C, b = c ∨ (b.x ≠ c.x ∧ b.g ≠ c.g) := by
  induction C with
  | nil => intro b hb; cases hb
  | cons d r ih =>
    intro b hb c hc
    cases hb with
    | head =>
      cases hc with
      | head => exact .inl rfl
      | tail _ hc => exact .inr (allCb_mem h.1 c hc)
    | tail _ hb =>
      cases hc with
      | head =>
        have := allCb_mem h.1 b hb
        exact .inr ⟨this.1.symm, this.2.symm⟩
      | tail _ hc => exact ih h.2 b hb c hc
theorem caps_at {l : List Inp} {C : List Cb} (h : pairsCb C) {b : Cb} (hb : b ∈ C) : capsV l C b.x = (b.g, 0) ∧ capsM l C b.x = some (.var b.ty b.cells) := by
  induction C with
  | nil => cases hb
  | cons d r ih =>
    cases hb with
    | head => simp only [capsV, capsM, Nat.beq_refl, cond_true]; exact ⟨trivial, trivial⟩
    | tail _ hb =>
      have e : Nat.beq b.x d.x = false := by
        cases e : Nat.beq b.x d.x with
        | false => rfl
        | true => exact absurd (Nat.eq_of_beq_eq_true e).symm (allCb_mem h.1 b hb).1
      simp only [capsV, capsM, e, cond_false]
      exact ih h.2 hb
theorem caps_none {l : List Inp} {C : List Cb} {x : Nat} (h : ∀ b ∈ C, b.x ≠ x) : capsV l C x = inpsV l x ∧ capsM l C x = lkM (inpsM l) x := by
  induction C with
  | nil => exact ⟨rfl, rfl⟩
  | cons d r ih =>
    have e : Nat.beq x d.x = false := by
      cases e : Nat.beq x d.x with
      | false => rfl
      | true => exact absurd (Nat.eq_of_beq_eq_true e).symm (h d (.head _))
    simp only [capsV, capsM, e, cond_false]
    exact ih fun b hb => h b (.tail _ hb)
theorem nameIn_mem {C : List Cb} {x : Nat} (h : nameIn C x) : ∃ b ∈ C, b.x = x := by
  induction C with
  | nil => cases h
  | cons d r ih =>
    rcases h with rfl | h
    · exact ⟨d, .head _, rfl⟩
    · obtain ⟨b, hb, e⟩ := ih h
      exact ⟨b, .tail _ hb, e⟩
theorem low_at {l : List Inp} (h : lowI l) {x : Nat} {b : Blk} (hx : lkM (inpsM l) x = some b) : x < 1900 := by
  induction l with
  | nil => cases hx
  | cons i r ih =>
    cases hb : Nat.beq x i.x with
    | true => rw [Nat.eq_of_beq_eq_true hb]; exact h.1
    | false =>
      simp only [inpsM, lkM, hb, cond_false] at hx
      exact ih h.2 hx
theorem apartI_at {l : List Inp} {g : Nat} (h : apartI g l) {x n sz : Nat} {el : Nat → List Value} (hx : lkM (inpsM l) x = some (.ro sz n el)) {w : World} (hr : allRd w l) (h0 : 0 < n) : (inpsV l x).1 ≠ g := by
  induction l with
  | nil => cases hx
  | cons i r ih =>
    cases hb : Nat.beq x i.x with
    | true =>
      simp only [inpsM, lkM, hb, cond_true] at hx
      injection hx with hx
      injection hx with e1 e2 e3
      subst e2
      obtain ⟨b, o, e, _⟩ := hr.1 h0
      simp only [inpsV, hb, cond_true, e]
      exact h.1 h0 _ e
    | false =>
      simp only [inpsM, lkM, hb, cond_false] at hx
      simp only [inpsV, hb, cond_false]
      exact ih h.2 hx hr.2
def capsB (C : List Cb) : List (Nat × Nat) := C.map fun b => (b.x, b.g)
theorem Sat.initCaps {w : World} {N : Nat} {avs : List AV} {l : List Inp} {C : List Cb} (hr : allRd w l) (hlo : lowI l) (hp : pairsCb C) (hf : allCb (Cb.fit w l) C)
    (ha : allCapss l C avs) {args : Array Value} (hargs : args = (avs.map (AV.conc (capsV l C))).toArray) (hN : avs.length ≤ N) :
    Sat ⟨w, capsB C, N⟩ (capsV l C) ⟨argsT avs, capsM l C⟩ { tmps := args ++ Array.replicate (N - args.size) undef, defers := [] } w := by
  have hfit := allCb_mem hf
  have split : ∀ x, (∃ b ∈ C, b.x = x) ∨ ∀ b ∈ C, b.x ≠ x := fun x => by
    by_cases h : ∃ b ∈ C, b.x = x
    · exact .inl h
    · exact .inr fun b hb e => h ⟨b, hb, e⟩
  have low : ∀ x b, lkM (inpsM l) x = some b → ∀ c ∈ C, c.x ≠ x := fun x b hx c hc e => by
    have h1 := low_at hlo hx
    have h2 := (hfit c hc).1
    omega
  have hin : ∀ x A len cap, inpIn l x A len → AC.ok (capsV l C) (capsM l C) (.inp x A len cap) := by
    intro x A len cap h
    have h1 := inp_ok (cap := cap) hr h
    obtain ⟨b, hb⟩ := Option.isSome_iff_exists.1 h1.1
    obtain ⟨e1, e2⟩ := caps_none (l := l) (low x b hb)
    exact ⟨by rw [e2]; exact h1.1, fun h0 => by rw [e1]; exact h1.2 h0⟩
  have hAC : ∀ a : AC, a.caps l C → a.ok (capsV l C) (capsM l C) := by
    intro a h
    cases a with
    | k v => trivial
    | inp x A len cap => exact hin x A len cap h
    | ptr x i sz off =>
      obtain ⟨b, hb, rfl⟩ := nameIn_mem h
      show (capsM l C b.x).isSome = true
      rw [(caps_at hp hb).2]; rfl
    | _ => cases h
  have hACs : ∀ cs : List AC, allACs l C cs → ∀ a ∈ cs, a.ok (capsV l C) (capsM l C) := by
    intro cs
    induction cs with
    | nil => intro _ a ha; cases ha
    | cons b r ih =>
      intro h a ha
      cases ha with
      | head => exact hAC _ h.1
      | tail _ ha => exact ih h.2 a ha
  refine ⟨⟨Fr.refl _ _, fun p hp' => ?_, fun x b hx => ?_, fun x y b c hx hy hb hc hne => ?_⟩, rfl, ?_, fun j => ?_⟩
  · obtain ⟨b, hb, rfl⟩ := List.mem_map.1 hp'
    exact ⟨(caps_at hp hb).1, by have := (hfit b hb).1; simp only; omega⟩
  · have hx : capsM l C x = some b := hx
    rcases split x with ⟨c, hc, rfl⟩ | hno
    · obtain ⟨e1, e2⟩ := caps_at (l := l) hp hc
      rw [e2] at hx
      injection hx with hx
      subst hx
      obtain ⟨_, _, h3, h4⟩ := hfit c hc
      refine ⟨by rw [e1], .inr (by rw [e1]; exact List.mem_map.2 ⟨c, hc, rfl⟩), by rw [e1, conc_inps h3 (capsV l C) (fun _ => (0, 0))]; exact h4, fun a ha => ?_⟩
      have := allAC_mem' h3 a ha
      cases a with
      | k v => trivial
      | inp x A len cap => exact hin x A len cap this
      | _ => cases this
    · obtain ⟨e1, e2⟩ := caps_none (l := l) hno
      rw [e2] at hx
      obtain ⟨A, n, sz, el, rfl, h2, h3⟩ := lkM_inps hx hr
      intro h0
      obtain ⟨b, o, rfl, h4, h5⟩ := h2 h0
      rw [e1, h3]
      exact ⟨h4, h5⟩
  · have hx : capsM l C x = some b := hx
    have hy : capsM l C y = some c := hy
    rcases split x with ⟨d, hd, rfl⟩ | hno
    · obtain ⟨e1, e2⟩ := caps_at (l := l) hp hd
      rcases split y with ⟨e, he, rfl⟩ | hno2
      · rw [e1, (caps_at (l := l) hp he).1]
        rcases pairs_inj hp d hd e he with rfl | h
        · exact absurd rfl hne
        · exact h.2
      · obtain ⟨e3, e4⟩ := caps_none (l := l) hno2
        rw [e4] at hy
        obtain ⟨A, n, sz, el, rfl, h2, h3⟩ := lkM_inps hy hr
        rw [e1, e3]
        exact (apartI_at (hfit d hd).2.1 hy hr hc).symm
    · obtain ⟨e3, e4⟩ := caps_none (l := l) hno
      rw [e4] at hx
      obtain ⟨A, n, sz, el, rfl, _⟩ := lkM_inps hx hr
      exact hb.elim
  · subst hargs
    simp
    omega
  · show (argsT avs j).rep _ _ _
    unfold argsT
    cases hj : avs[j]? with
    | none => trivial
    | some a =>
      have hlt : j < avs.length := (List.getElem?_eq_some_iff.1 hj).1
      have hmem : a ∈ avs := List.mem_of_getElem? hj
      have hin : a.caps l C := by
        clear hj hlt hargs hN
        induction avs with
        | nil => cases hmem
        | cons b r ih =>
          cases hmem with
          | head => exact ha.1
          | tail _ hm => exact ih ha.2 hm
      refine ⟨?_, ?_⟩
      · cases a with
        | c a => exact hAC a hin
        | agg cs => exact hACs cs hin
      · subst hargs
        simp only [Array.getD_eq_getD_getElem?]
        rw [Array.getElem?_append_left (by simpa using hlt)]
        simp [hj]
section
variable {P : Program} {T : Tab}
def allKept (m : Mem) : List Cb → Prop
  | [] => True
  | b :: r => m b.x = some (.var b.ty b.cells) ∧ allKept m r
theorem allKept_mem {m : Mem} {C : List Cb} (h : allKept m C) : ∀ b ∈ C, m b.x = some (.var b.ty b.cells) := by
  induction C with
  | nil => intro b hb; cases hb
  | cons c r ih =>
    intro b hb
    cases hb with
    | head => exact h.1
    | tail _ hb => exact ih h.2 b hb
def endCaps (T : Tab) (fn : Func) (v : Value) (C : List Cb) : Exit → St → Prop := fun e st => (e = .ret ∨ e = .normal) ∧ resP T st fn.results.toList = .mk v ∧ allKept st.m C
theorem enterCaps (hT : Tab.fine P T) {f : FuncId} {fn : Func} {c : Code} {args : Array Value} {w : World} {v : Value} (C : List Cb) (hf : P.funcs[f]? = some fn) (hb : fn.body = some c) (N : Nat) (hN : fn.ntmps = N) (avs : List AV) (l : List Inp) (hr : allRd w l) (hlo : lowI l) (hp : pairsCb C) (hfit : allCb (Cb.fit w l) C)
    (hargs : args = (avs.map (AV.conc (capsV l C))).toArray) (hl : Nat.ble avs.length N = true) (ha : allCapss l C avs)
    (h : G P ⟨w, capsB C, N⟩ (endCaps T fn v C) c ⟨argsT avs, capsM l C⟩) : Calls P f args w fun e w' => e = .returned v ∧ Below w.heap.size w w' := by
  subst hN
  refine enter (E := ⟨w, capsB C, fn.ntmps⟩) hf hb (capsV l C) (Sat.initCaps hr hlo hp hfit ha hargs (Nat.le_of_ble_eq_true hl)) (h.mono fun e st hk => ⟨hk.1, fun ρ a w' hs => ?_⟩)
  obtain ⟨_, h1, h2⟩ := hk
  refine ⟨v, results_run hT hs h1, rfl, ?_⟩
  have hfr := hs.mem.fr
  exact ⟨hfr.os, hfr.tape, hfr.output, hfr.size, fun k hk => by
    by_cases e : ∃ b ∈ C, b.g = k
    · obtain ⟨b, hb, rfl⟩ := e
      obtain ⟨_, _, h4, _⟩ := hs.mem.ok b.x _ (allKept_mem h2 b hb)
      have hρ := (hs.mem.bo (b.x, b.g) (List.mem_map.2 ⟨b, hb, rfl⟩)).1
      simp only at hρ
      obtain ⟨_, _, h5, h6⟩ := allCb_mem hfit b hb
      rw [hρ, conc_inps h5 ρ (fun _ => (0, 0))] at h4
      rw [h4, h6]
    · exact hfr.block k hk fun hm => by
        obtain ⟨q, hq, e2⟩ := List.mem_map.1 hm
        obtain ⟨b, hb, e3⟩ := List.mem_map.1 hq
        exact e ⟨b, hb, by rw [← e2, ← e3]⟩⟩
theorem endCaps.ret {fn : Func} {v u : Value} {C : List Cb} {st : St} (h : resP T st fn.results.toList = .mk u) (e : u = v) (h2 : allKept st.m C) : endCaps T fn v C .ret st := ⟨.inl rfl, h.trans (congrArg VR.mk e), h2⟩
/-- What a variable of ours holds, as a captured variable. -/
theorem SatM.fit {E : Env} {ρ : Val} {m : Mem} {w : World} (h : SatM E ρ m w) {x : Nat} {ty : TypeId} {cells : List AC} (hx : m x = some (.var ty cells)) (y : Nat) (hy : 1900 ≤ y) (l : List Inp) (ha : apartI (ρ x).1 l) (hc : allAC l cells) : Cb.fit w l ⟨y, (ρ x).1, ty, cells⟩ := by
  refine ⟨hy, ha, hc, ?_⟩
  have := (h.ok x _ hx).2.2.1
  rw [conc_inps hc ρ (fun _ => (0, 0))] at this
  exact this
/-- A row that is only read lies apart from a block of ours. -/
theorem SatM.apart {E : Env} {ρ : Val} {m : Mem} {w : World} (h : SatM E ρ m w) {x q n sz len cap : Nat} {b : Blk} {A : Option Addr} {el : Nat → List Value} (hx : m x = some b) (ho : b.own) (hq : m q = some (.ro sz n el)) (hok : AC.ok ρ m (.inp q A len cap)) (hl : len ≤ n) (hne : x ≠ q) : 0 < len → ∀ a, A = some a → a.block ≠ (ρ x).1 := by
  intro h0 a ha
  have e := hok.2 h0
  rw [ha] at e
  injection e with e
  subst e
  have hlive : Blk.live (.ro sz n el) := by show 0 < n; omega
  exact (h.ne x q b _ hx hq ho hlive hne).symm
/-- A part of a row that is only read. -/
theorem SatM.rdRo {E : Env} {ρ : Val} {m : Mem} {w : World} (h : SatM E ρ m w) {x sz n : Nat} {el : Nat → List Value} (hx : m x = some (.ro sz n el)) (i0 len : Nat) (hl : i0 + len ≤ n) :
    RdRow w (some ⟨(ρ x).1, (ρ x).2 + i0 * sz, none⟩) len sz (fun i => el (i0 + i)) := by
  intro h0
  obtain ⟨h1, h2⟩ := h.ok x _ hx (by omega)
  refine ⟨_, _, rfl, h1, fun i hi => ⟨(h2 _ (by omega)).1, fun j hj => ?_⟩⟩
  rw [← (h2 (i0 + i) (by omega)).2 j hj, Nat.add_mul]
  congr 2
  omega
end
section
variable {P : Program} {E : Env} {K : Exit → St → Prop} {T : Tab}
/-- A name for a row of which nothing is said. -/
theorem SatM.newNil {ρ : Val} {m : Mem} {w : World} (h : SatM E ρ m w) {x sz : Nat} {el : Nat → List Value} (hx : m x = none) : SatM E ρ (up m x (some (.ro sz 0 el))) w := by
  have old : ∀ y b, up m x (some (.ro sz 0 el)) y = some b → (y = x ∧ b = .ro sz 0 el) ∨ (y ≠ x ∧ m y = some b) := by
    intro y b hy
    by_cases e : y = x
    · subst e
      rw [up_same] at hy
      injection hy with hy
      exact .inl ⟨rfl, hy.symm⟩
    · rw [up_other _ _ e] at hy
      exact .inr ⟨e, hy⟩
  refine ⟨h.fr, h.bo, fun y b hy => ?_, fun y z c d hy hz hc hd hne => ?_⟩
  · rcases old y b hy with ⟨rfl, rfl⟩ | ⟨e, hy⟩
    · intro h0; omega
    · exact (h.ok y b hy).far (fun z hz => isSome_up z hz) (Nat.le_refl _) fun _ => rfl
  · rcases old y c hy with ⟨rfl, rfl⟩ | ⟨e, hy⟩
    · exact hc.elim
    · rcases old z d hz with ⟨rfl, rfl⟩ | ⟨e2, hz⟩
      · exact absurd hd (Nat.lt_irrefl 0)
      · exact h.ne y z c d hy hz hc hd hne
/-- A call under a guard that answers a row, by itself or in a struct. -/
theorem GO.callTabG {ops : Array Oper} {rest : List Oper} {o : Oper} {c : Call} {j : Nat} {want cb : Bool} {f : FuncId} {avs : List AV} {caps : List Cap} {t : Nat → TV} {m : Mem} {x n sz : Nat} {el : Nat → List Value} (p : Option (List Value × List Value)) (hd : o.dst = some x) (hx : m x = none) (hxb : Nat.blt x 1000 = true) (hdN : Nat.blt x E.N = true)
    (hg : o.guard = some (j, want)) (hb : guardB ops t j want = some cb) (hop : o.op = .call c) (hob : AllP (stripObs t j want cb (slotsOf o.op.operands.toList)))
    (he : callE (tG t j want (slotsOf o.op.operands.toList)) c = .mk f avs caps)
    (hcf : ∀ (args : Array Value) (w : World), (callFunc f args).run P w = .ok (.enter f args) w)
    (hc : cb = true → ∀ ρ w, SatM E ρ m w → (∀ v ∈ avs, v.ok ρ m) → Calls P f (avs.map (AV.conc ρ) ++ caps.map (Cap.conc ρ)).toArray w fun e w' => ∃ A k, e = .returned (rowIn p (.slice A n k)) ∧ RdNew w w' A n sz el ∧ Below w.heap.size w w')
    (k : ∀ A k, GO P E ops K rest ⟨up t x (.grd j want cb (rowAV p (.inp x A n k))), up m x (some (.ro sz (bif cb then n else 0) el))⟩) : GO P E ops K (o :: rest) ⟨t, m⟩ := by
  intro ρ a w hs
  have hw := wanted_cond (ops := ops) hs hg hb
  unfold wpList
  rw [hw]
  cases hcb : cb with
  | true =>
    subst hcb
    rw [if_pos rfl]
    refine .inl ?_
    obtain ⟨hr, hok, hok2⟩ := call_run (hs.tG hob rfl) hop he hcf
    unfold Oper.wp
    rw [hr]
    refine (hc rfl ρ w hs.mem hok).mono ?_
    rintro e w' ⟨A, k1, rfl, hn, hbl⟩
    obtain ⟨ρ', h1, h2, h3⟩ := hs.mem.newRo hbl (cap := k1) hx (by simpa [Nat.blt_eq] using hxb) hn
    have hmv := hs.move h2 (fun y hy => isSome_up y hy) h1
    refine k A k1 ρ' _ w' ?_
    rw [hd]
    exact hmv.put (by simpa [Nat.blt_eq] using hdN) ⟨fun _ => ⟨rowAV_ok.2 h3, (rowAV_conc ρ' p (.inp x A n k1)).symm⟩, fun hf => by cases hf⟩
  | false =>
    subst hcb
    rw [if_neg (by simp)]
    have hmv := hs.move (hs.mem.newNil (x := x) (sz := sz) (el := el) hx) (fun y hy => isSome_up y hy) (fun _ _ => rfl)
    refine k none 0 ρ _ w ?_
    rw [hd]
    exact hmv.put (by simpa [Nat.blt_eq] using hdN) ⟨fun hf => (by cases hf), fun _ => rfl⟩
theorem GI.weaken {c : Code} {st st' : St} (hl : St.le E st' st) (h : GI P E K c st') : GI P E K c st := fun ρ a w hs => h ρ a w (hl ρ a w hs)
end
end Go.Sx
/- The symbolic executor, part AC: closures that read and turn captured blocks of any kind (variables, rows of ours), and calls of them. Generic over P. -/
set_option linter.unusedVariables false
set_option linter.unusedSimpArgs false
namespace Go.Sx
open Go.RowKit
/-- A captured block: its name, where it lies, what is said of it. -/
structure Bw where
  x : Nat
  g : Nat
  b : Blk
def bwV (l : List Inp) (C : List Bw) (x : Nat) : Nat × Nat := match C with
  | [] => inpsV l x
  | b :: r => bif Nat.beq x b.x then (b.g, 0) else bwV l r x
def bwM (l : List Inp) (C : List Bw) (x : Nat) : Option Blk := match C with
  | [] => lkM (inpsM l) x
  | b :: r => bif Nat.beq x b.x then some b.b else bwM l r x
def bwIn (C : List Bw) (x : Nat) : Prop := match C with
  | [] => False
  | b :: r => x = b.x ∨ bwIn r x
def allCapBw (C : List Bw) : List Cap → Prop
  | [] => True
  | .own x _ :: r => bwIn C x ∧ allCapBw C r
  | .val _ :: r => allCapBw C r
def AC.bw (l : List Inp) (C : List Bw) : AC → Prop
  | .k _ => True
  | .inp x A len _ => inpIn l x A len
  | .ptr x _ _ _ => bwIn C x
  | .slc x _ _ _ _ => bwIn C x
  | .fn _ caps => allCapBw C caps
  | .row .. => False
  | .mp .. => False
def allACb (l : List Inp) (C : List Bw) : List AC → Prop
  | [] => True
  | a :: r => a.bw l C ∧ allACb l C r
def AV.bw (l : List Inp) (C : List Bw) : AV → Prop
  | .c a => a.bw l C
  | .agg cs => allACb l C cs
def allAVb (l : List Inp) (C : List Bw) : List AV → Prop
  | [] => True
  | a :: r => a.bw l C ∧ allAVb l C r
def allBw (p : Bw → Prop) : List Bw → Prop
  | [] => True
  | b :: r => p b ∧ allBw p r
theorem allBw_mem {p : Bw → Prop} {C : List Bw} (h : allBw p C) : ∀ b ∈ C, p b := by
  induction C with
  | nil => intro b hb; cases hb
  | cons c r ih =>
    intro b hb
    cases hb with
    | head => exact h.1
    | tail _ hb => exact ih h.2 b hb
def pairsBw : List Bw → Prop
  | [] => True
  | b :: r => allBw (fun c => b.x ≠ c.x ∧ b.g ≠ c.g) r ∧ pairsBw r
/-- What a world says of a block at g. -/
def rawB (ρ : Val) (w : World) (g : Nat) : Blk → Prop
  | .var ty cells => w.heap[g]? = some (.cells (cells.map (AC.conc ρ)).toArray ty (0, 0))
  | .arr ty sz n el room => OwnAt w g ty n sz el room
  | .ro .. => False
  | .obj .. => False
def cellsB (l : List Inp) (C : List Bw) : Blk → Prop
  | .var _ cells => allACb l C cells
  | _ => True
def Bw.fit (w : World) (ρ : Val) (l : List Inp) (C : List Bw) (b : Bw) : Prop := 1900 ≤ b.x ∧ apartI b.g l ∧ cellsB l C b.b ∧ rawB ρ w b.g b.b
theorem bw_inj {C : List Bw} (h : pairsBw C) : ∀ b ∈ C, ∀ c ∈ C, b = c ∨ (b.x ≠ c.x ∧ b.g ≠ c.g) := by
  induction C with
  | nil => intro b hb; cases hb
  | cons d r ih =>
    intro b hb c hc
    cases hb with
    | head =>
      cases hc with
      | head => exact .inl rfl
      | tail _ hc => exact .inr (allBw_mem h.1 c hc)
    | tail _ hb =>
      cases hc with
      | head =>
        have := allBw_mem h.1 b hb
        exact .inr ⟨this.1.symm, this.2.symm⟩
      | tail _ hc => exact ih h.2 b hb c hc
theorem bw_at {l : List Inp} {C : List Bw} (h : pairsBw C) {b : Bw} (hb : b ∈ C) : bwV l C b.x = (b.g, 0) ∧ bwM l C b.x = some b.b := by
  induction C with
  | nil => cases hb
  | cons d r ih =>
    cases hb with
    | head => simp only [bwV, bwM, Nat.beq_refl, cond_true]; exact ⟨trivial, trivial⟩
    | tail _ hb =>
      have e : Nat.beq b.x d.x = false := by
        cases e : Nat.beq b.x d.x with
        | false => rfl
        | true => exact absurd (Nat.eq_of_beq_eq_true e).symm (allBw_mem h.1 b hb).1
      simp only [bwV, bwM, e, cond_false]
      exact ih h.2 hb
theorem bw_none {l : List Inp} {C : List Bw} {x : Nat} (h : ∀ b ∈ C, b.x ≠ x) : bwV l C x = inpsV l x ∧ bwM l C x = lkM (inpsM l) x := by
  induction C with
  | nil => exact ⟨rfl, rfl⟩
  | cons d r ih =>
    have e : Nat.beq x d.x = false := by
      cases e : Nat.beq x d.x with
      | false => rfl
      | true => exact absurd (Nat.eq_of_beq_eq_true e).symm (h d (.head _))
    simp only [bwV, bwM, e, cond_false]
    exact ih fun b hb => h b (.tail _ hb)
theorem bwIn_mem {C : List Bw} {x : Nat} (h : bwIn C x) : ∃ b ∈ C, b.x = x := by
  induction C with
  | nil => cases h
  | cons d r ih =>
    rcases h with rfl | h
    · exact ⟨d, .head _, rfl⟩
    · obtain ⟨b, hb, e⟩ := ih h
      exact ⟨b, .tail _ hb, e⟩
theorem allACb_mem {l : List Inp} {C : List Bw} {cs : List AC} (h : allACb l C cs) : ∀ a ∈ cs, a.bw l C := by
  induction cs with
  | nil => intro a ha; cases ha
  | cons b r ih =>
    intro a ha
    cases ha with
    | head => exact h.1
    | tail _ ha => exact ih h.2 a ha
theorem capBw_mem {C : List Bw} {cs : List Cap} (h : allCapBw C cs) : ∀ x off, Cap.own x off ∈ cs → bwIn C x := by
  induction cs with
  | nil => intro x off ha; cases ha
  | cons b r ih =>
    intro x off ha
    cases ha with
    | head => exact h.1
    | tail _ ha =>
      cases b with
      | own y o => exact ih h.2 x off ha
      | val v => exact ih h x off ha
/-- What a cell holds hangs on where the captured blocks lie alone. -/
theorem conc_bw {l : List Inp} {C : List Bw} {ρ ρ' : Val} (hρ : ∀ b ∈ C, ρ b.x = ρ' b.x) {cs : List AC} (h : allACb l C cs) : cs.map (AC.conc ρ) = cs.map (AC.conc ρ') := by
  refine List.map_congr_left fun a ha => ?_
  have hb := allACb_mem h a ha
  have at' : ∀ x, bwIn C x → ρ x = ρ' x := fun x hx => by
    obtain ⟨b, hb, rfl⟩ := bwIn_mem hx
    exact hρ b hb
  cases a with
  | k v => rfl
  | inp x A len cap => rfl
  | ptr x i sz off => simp only [AC.conc, at' x hb]
  | slc x i sz len cap => simp only [AC.conc, at' x hb]
  | fn f caps =>
    have : caps.map (Cap.conc ρ) = caps.map (Cap.conc ρ') := List.map_congr_left fun c hc => by
      cases c with
      | own x off => simp only [Cap.conc, at' x (capBw_mem hb x off hc)]
      | val v => rfl
    simp only [AC.conc, this]
  | row x n g => exact hb.elim
  | mp x => exact hb.elim
def bwB (C : List Bw) : List (Nat × Nat) := C.map fun b => (b.x, b.g)
theorem Sat.initBw {w : World} {N : Nat} {avs : List AV} {l : List Inp} {C : List Bw} (hr : allRd w l) (hlo : lowI l) (hp : pairsBw C) (hf : allBw (Bw.fit w (bwV l C) l C) C)
    (ha : allAVb l C avs) {args : Array Value} (hargs : args = (avs.map (AV.conc (bwV l C))).toArray) (hN : avs.length ≤ N) :
    Sat ⟨w, bwB C, N⟩ (bwV l C) ⟨argsT avs, bwM l C⟩ { tmps := args ++ Array.replicate (N - args.size) undef, defers := [] } w := by
  have hfit := allBw_mem hf
  have split : ∀ x, (∃ b ∈ C, b.x = x) ∨ ∀ b ∈ C, b.x ≠ x := fun x => by
    by_cases h : ∃ b ∈ C, b.x = x
    · exact .inl h
    · exact .inr fun b hb e => h ⟨b, hb, e⟩
  have low : ∀ x b, lkM (inpsM l) x = some b → ∀ c ∈ C, c.x ≠ x := fun x b hx c hc e => by
    have h1 := low_at hlo hx
    have h2 := (hfit c hc).1
    omega
  have hin : ∀ x A len cap, inpIn l x A len → AC.ok (bwV l C) (bwM l C) (.inp x A len cap) := by
    intro x A len cap h
    have h1 := inp_ok (cap := cap) hr h
    obtain ⟨b, hb⟩ := Option.isSome_iff_exists.1 h1.1
    obtain ⟨e1, e2⟩ := bw_none (l := l) (low x b hb)
    exact ⟨by rw [e2]; exact h1.1, fun h0 => by rw [e1]; exact h1.2 h0⟩
  have hname : ∀ x, bwIn C x → (bwM l C x).isSome = true := fun x h => by
    obtain ⟨b, hb, rfl⟩ := bwIn_mem h
    rw [(bw_at hp hb).2]; rfl
  have hAC : ∀ a : AC, a.bw l C → a.ok (bwV l C) (bwM l C) := by
    intro a h
    cases a with
    | k v => trivial
    | inp x A len cap => exact hin x A len cap h
    | ptr x i sz off => exact hname x h
    | slc x i sz len cap => exact hname x h
    | fn f caps =>
      intro c hc
      cases c with
      | own x off => exact hname x (capBw_mem h x off hc)
      | val v => trivial
    | row x n g => exact h.elim
    | mp x => exact h.elim
  refine ⟨⟨Fr.refl _ _, fun p hp' => ?_, fun x b hx => ?_, fun x y b c hx hy hb hc hne => ?_⟩, rfl, ?_, fun j => ?_⟩
  · obtain ⟨b, hb, rfl⟩ := List.mem_map.1 hp'
    exact ⟨(bw_at hp hb).1, by have := (hfit b hb).1; simp only; omega⟩
  · have hx : bwM l C x = some b := hx
    rcases split x with ⟨c, hc, rfl⟩ | hno
    · obtain ⟨e1, e2⟩ := bw_at (l := l) hp hc
      rw [e2] at hx
      injection hx with hx
      subst hx
      obtain ⟨_, _, h3, h4⟩ := hfit c hc
      have hbor : (c.x, (bwV l C c.x).1) ∈ bwB C := by rw [e1]; exact List.mem_map.2 ⟨c, hc, rfl⟩
      cases hcb : c.b with
      | var ty cells =>
        rw [hcb] at h3 h4
        exact ⟨by rw [e1], .inr hbor, by rw [e1]; exact h4, fun a ha => hAC a (allACb_mem h3 a ha)⟩
      | arr ty sz n el room =>
        rw [hcb] at h4
        exact ⟨by rw [e1], .inr hbor, by rw [e1]; exact h4⟩
      | ro sz n el => rw [hcb] at h4; exact h4.elim
      | obj Q => rw [hcb] at h4; exact h4.elim
    · obtain ⟨e1, e2⟩ := bw_none (l := l) hno
      rw [e2] at hx
      obtain ⟨A, n, sz, el, rfl, h2, h3⟩ := lkM_inps hx hr
      intro h0
      obtain ⟨b, o, rfl, h4, h5⟩ := h2 h0
      rw [e1, h3]
      exact ⟨h4, h5⟩
  · have hx : bwM l C x = some b := hx
    have hy : bwM l C y = some c := hy
    rcases split x with ⟨d, hd, rfl⟩ | hno
    · obtain ⟨e1, e2⟩ := bw_at (l := l) hp hd
      rcases split y with ⟨e, he, rfl⟩ | hno2
      · rw [e1, (bw_at (l := l) hp he).1]
        rcases bw_inj hp d hd e he with rfl | h
        · exact absurd rfl hne
        · exact h.2
      · obtain ⟨e3, e4⟩ := bw_none (l := l) hno2
        rw [e4] at hy
        obtain ⟨A, n, sz, el, rfl, h2, h3⟩ := lkM_inps hy hr
        rw [e1, e3]
        exact (apartI_at (hfit d hd).2.1 hy hr hc).symm
    · obtain ⟨e3, e4⟩ := bw_none (l := l) hno
      rw [e4] at hx
      obtain ⟨A, n, sz, el, rfl, _⟩ := lkM_inps hx hr
      exact hb.elim
  · subst hargs
    simp
    omega
  · show (argsT avs j).rep _ _ _
    unfold argsT
    cases hj : avs[j]? with
    | none => trivial
    | some a =>
      have hlt : j < avs.length := (List.getElem?_eq_some_iff.1 hj).1
      have hmem : a ∈ avs := List.mem_of_getElem? hj
      have hin : a.bw l C := by
        clear hj hlt hargs hN
        induction avs with
        | nil => cases hmem
        | cons b r ih =>
          cases hmem with
          | head => exact ha.1
          | tail _ hm => exact ih ha.2 hm
      refine ⟨?_, ?_⟩
      · cases a with
        | c a => exact hAC a hin
        | agg cs => exact fun a ha => hAC a (allACb_mem hin a ha)
      · subst hargs
        simp only [Array.getD_eq_getD_getElem?]
        rw [Array.getElem?_append_left (by simpa using hlt)]
        simp [hj]
section
variable {P : Program} {T : Tab}
/-- What a captured block holds in the end. -/
def outB (m : Mem) (x : Nat) : Blk → Prop
  | .var ty cells => m x = some (.var ty cells)
  | .arr ty sz n el _ => ∃ el2 room2, m x = some (.arr ty sz n el2 room2) ∧ ∀ i, i < n → el2 i = el i
  | .ro .. => False
  | .obj .. => False
def outAll (m : Mem) : List Bw → Prop
  | [] => True
  | b :: r => outB m b.x b.b ∧ outAll m r
theorem outAll_mem {m : Mem} {C : List Bw} (h : outAll m C) : ∀ b ∈ C, outB m b.x b.b := by
  induction C with
  | nil => intro b hb; cases hb
  | cons c r ih =>
    intro b hb
    cases hb with
    | head => exact h.1
    | tail _ hb => exact ih h.2 b hb
/-- What a world says of a block in the end (no room is told). -/
def rawE (ρ : Val) (w : World) (g : Nat) : Blk → Prop
  | .var ty cells => w.heap[g]? = some (.cells (cells.map (AC.conc ρ)).toArray ty (0, 0))
  | .arr ty sz n el _ => OwnAt w g ty n sz el 0
  | .ro .. => False
  | .obj .. => False
def rawAll (ρ : Val) (w : World) : List Bw → Prop
  | [] => True
  | b :: r => rawE ρ w b.g b.b ∧ rawAll ρ w r
theorem rawAll_of {ρ : Val} {w : World} {O : List Bw} (h : ∀ b ∈ O, rawE ρ w b.g b.b) : rawAll ρ w O := by
  induction O with
  | nil => trivial
  | cons b r ih => exact ⟨h b (.head _), ih fun b hb => h b (.tail _ hb)⟩
def endBw (T : Tab) (fn : Func) (v : Value) (O : List Bw) : Exit → St → Prop := fun e st => (e = .ret ∨ e = .normal) ∧ resP T st fn.results.toList = .mk v ∧ outAll st.m O
theorem enterBw (hT : Tab.fine P T) {f : FuncId} {fn : Func} {c : Code} {args : Array Value} {w : World} {v : Value} (C O : List Bw) (hf : P.funcs[f]? = some fn) (hb : fn.body = some c) (N : Nat) (hN : fn.ntmps = N) (avs : List AV) (l : List Inp) (hr : allRd w l) (hlo : lowI l) (hp : pairsBw C) (hfit : allBw (Bw.fit w (bwV l C) l C) C)
    (hargs : args = (avs.map (AV.conc (bwV l C))).toArray) (hl : Nat.ble avs.length N = true) (ha : allAVb l C avs) (hO : ∀ b ∈ O, ∃ c ∈ C, c.x = b.x ∧ c.g = b.g) (hOc : allBw (fun b => cellsB l C b.b) O)
    (h : G P ⟨w, bwB C, N⟩ (endBw T fn v O) c ⟨argsT avs, bwM l C⟩) : Calls P f args w fun e w' => e = .returned v ∧ Fr w (C.map (·.g)) w' ∧ rawAll (bwV l C) w' O := by
  subst hN
  refine enter (E := ⟨w, bwB C, fn.ntmps⟩) hf hb (bwV l C) (Sat.initBw hr hlo hp hfit ha hargs (Nat.le_of_ble_eq_true hl)) (h.mono fun e st hk => ⟨hk.1, fun ρ a w' hs => ?_⟩)
  obtain ⟨_, h1, h2⟩ := hk
  have hρ : ∀ c ∈ C, ρ c.x = (c.g, 0) := fun c hc => (hs.mem.bo (c.x, c.g) (List.mem_map.2 ⟨c, hc, rfl⟩)).1
  refine ⟨v, results_run hT hs h1, rfl, ?_, rawAll_of fun b hb => ?_⟩
  · have := hs.mem.fr
    simp only [bwB, List.map_map] at this
    exact this
  · obtain ⟨c, hc, e1, e2⟩ := hO b hb
    have ho := outAll_mem h2 b hb
    have hbx : ρ b.x = (b.g, 0) := by rw [← e1, ← e2]; exact hρ c hc
    cases hbb : b.b with
    | var ty cells =>
      rw [hbb] at ho
      have hk := (hs.mem.ok b.x _ ho).2.2.1
      have hcells := allBw_mem hOc b hb
      rw [hbb] at hcells
      rw [hbx, conc_bw (fun c hc => (hρ c hc).trans (bw_at (l := l) hp hc).1.symm) hcells] at hk
      exact hk
    | arr ty sz n el room =>
      rw [hbb] at ho
      obtain ⟨el2, room2, h3, h4⟩ := ho
      have hk := (hs.mem.ok b.x _ h3).2.2
      rw [hbx] at hk
      obtain ⟨a, h5, h6, h7⟩ := hk
      exact ⟨a, h5, by omega, fun i hi => by rw [← h4 i hi]; exact h7 i hi⟩
    | ro sz n el => rw [hbb] at ho; exact ho.elim
    | obj Q => rw [hbb] at ho; exact ho.elim
theorem endBw.ret {fn : Func} {v u : Value} {O : List Bw} {st : St} (h : resP T st fn.results.toList = .mk u) (e : u = v) (h2 : outAll st.m O) : endBw T fn v O .ret st := ⟨.inl rfl, h.trans (congrArg VR.mk e), h2⟩
theorem endBw.norm {fn : Func} {v u : Value} {O : List Bw} {st : St} (h : resP T st fn.results.toList = .mk u) (e : u = v) (h2 : outAll st.m O) : endBw T fn v O .normal st := ⟨.inr rfl, h.trans (congrArg VR.mk e), h2⟩
/-- Blocks that a closure leaves as they were need not be told. -/
theorem Fr.drop {w w' : World} {a b : List Nat} (h : Fr w a w') (hk : ∀ g ∈ a, g ∈ b ∨ w'.heap[g]? = w.heap[g]?) : Fr w b w' :=
  ⟨h.os, h.tape, h.output, h.size, fun k hk1 hk2 => by
    by_cases e : k ∈ a
    · rcases hk k e with h1 | h1
      · exact absurd h1 hk2
      · exact h1
    · exact h.block k hk1 e⟩
end
section
variable {P : Program} {E : Env} {K : Exit → St → Prop} {T : Tab}
/-! ### Calls that turn blocks of ours -/
structure Tb where
  x : Nat
  b : Blk
def turnedB (m : Mem) : List Tb → Mem
  | [] => m
  | b :: r => up (turnedB m r) b.x (some b.b)
theorem turnedB_at {m : Mem} {l : List Tb} (y : Nat) : (∃ b ∈ l, b.x = y ∧ turnedB m l y = some b.b) ∨ ((∀ b ∈ l, b.x ≠ y) ∧ turnedB m l y = m y) := by
  induction l with
  | nil => exact .inr ⟨by simp, rfl⟩
  | cons b r ih =>
    by_cases e : y = b.x
    · subst e
      exact .inl ⟨b, by simp, rfl, by simp [turnedB, up_same]⟩
    · rcases ih with ⟨c, h1, h2, h3⟩ | ⟨h1, h2⟩
      · exact .inl ⟨c, by simp [h1], h2, by rw [turnedB, up_other _ _ e]; exact h3⟩
      · refine .inr ⟨fun c hc => ?_, by rw [turnedB, up_other _ _ e]; exact h2⟩
        cases hc with
        | head => exact fun h => e h.symm
        | tail _ hc => exact h1 c hc
theorem BlkOK.place {ρ : Val} {m : Mem} {w : World} {x : Nat} {b : Blk} (h : BlkOK E ρ m w x b) (ho : b.own) : (ρ x).2 = 0 ∧ (E.w0.heap.size ≤ (ρ x).1 ∨ (x, (ρ x).1) ∈ E.bor) := by
  cases b with
  | var ty cells => exact ⟨h.1, h.2.1⟩
  | arr ty sz n el room => exact ⟨h.1, h.2.1⟩
  | ro sz n el => exact ho.elim
  | obj Q => exact ⟨h.1, h.2.1⟩
/-- The cells of a block name blocks that are there. -/
def okBl (ρ : Val) (m : Mem) : Blk → Prop
  | .var _ cells => ∀ c ∈ cells, c.ok ρ m
  | _ => True
theorem SatM.turnB {ρ : Val} {m : Mem} {w w' : World} (h : SatM E ρ m w) {l : List Tb} (hl : ∀ t ∈ l, ∃ b0, m t.x = some b0 ∧ b0.own) (hf : Fr w (l.map fun t => (ρ t.x).1) w') (hn : ∀ t ∈ l, rawE ρ w' (ρ t.x).1 t.b ∧ okBl ρ m t.b ∧ t.b.own ∧ ∀ ty sz n el room, t.b = .arr ty sz n el room → room = 0) : SatM E ρ (turnedB m l) w' := by
  have hsome : ∀ y, (m y).isSome = true → (turnedB m l y).isSome = true := by
    intro y hy
    rcases turnedB_at (m := m) (l := l) y with ⟨b, _, _, h3⟩ | ⟨_, h2⟩
    · rw [h3]; rfl
    · rw [h2]; exact hy
  have hold : ∀ y b, turnedB m l y = some b → ∃ b0, m y = some b0 ∧ (b.own → b0.own) ∧ (b.live → b0.live) := by
    intro y b hy
    rcases turnedB_at (m := m) (l := l) y with ⟨c, h1, rfl, h3⟩ | ⟨_, h2⟩
    · obtain ⟨b0, hc, ho⟩ := hl c h1
      exact ⟨_, hc, fun _ => ho, fun _ => Blk.own_live ho⟩
    · rw [h2] at hy
      exact ⟨b, hy, id, id⟩
  refine ⟨⟨hf.os.trans h.fr.os, hf.tape.trans h.fr.tape, hf.output.trans h.fr.output, Nat.le_trans h.fr.size hf.size, fun k hk hn => ?_⟩, h.bo, fun y b hy => ?_, fun y z c d hy hz hc hd hne => ?_⟩
  · refine (hf.block k (Nat.lt_of_lt_of_le hk h.fr.size) fun hmem => ?_).trans (h.fr.block k hk hn)
    obtain ⟨b, hb, e⟩ := List.mem_map.1 hmem
    obtain ⟨b0, hc, ho⟩ := hl b hb
    rcases mem_bor ((h.ok _ _ hc).place ho).2 with h1 | h1
    · rw [e] at h1; omega
    · rw [e] at h1; exact hn h1
  · rcases turnedB_at (m := m) (l := l) y with ⟨c, h1, rfl, h3⟩ | ⟨h1, h2⟩
    · rw [h3] at hy
      injection hy with hy
      subst hy
      obtain ⟨b0, hc, ho⟩ := hl c h1
      obtain ⟨p1, p2⟩ := (h.ok _ _ hc).place ho
      obtain ⟨n1, n2, n3, n4⟩ := hn c h1
      cases hcb : c.b with
      | var ty cells =>
        rw [hcb] at n1 n2
        exact ⟨p1, p2, n1, fun a ha => AC.ok_mono hsome (fun _ _ => rfl) (n2 a ha)⟩
      | arr ty sz n el room =>
        rw [hcb] at n1
        have := n4 _ _ _ _ _ hcb
        subst this
        exact ⟨p1, p2, n1⟩
      | ro sz n el => rw [hcb] at n3; exact n3.elim
      | obj Q => rw [hcb] at n1; exact n1.elim
    · rw [h2] at hy
      refine (h.ok y b hy).far hsome hf.size fun hlive => ?_
      refine hf.block _ (h.lt' hy hlive) fun hmem => ?_
      obtain ⟨c, hc, e⟩ := List.mem_map.1 hmem
      obtain ⟨b0, hcc, ho⟩ := hl c hc
      exact h.ne _ _ _ _ hcc hy ho hlive (h1 c hc) e
  · obtain ⟨c0, h1, h2, _⟩ := hold y c hy
    obtain ⟨d0, h3, _, h4⟩ := hold z d hz
    exact h.ne y z c0 d0 h1 h3 (h2 hc) (h4 hd) hne
def ownL (m : Mem) : List Tb → Prop
  | [] => True
  | t :: r => (∃ b0, m t.x = some b0 ∧ b0.own) ∧ ownL m r
theorem ownL_mem {m : Mem} {l : List Tb} (h : ownL m l) : ∀ t ∈ l, ∃ b0, m t.x = some b0 ∧ b0.own := by
  induction l with
  | nil => intro b hb; cases hb
  | cons c r ih =>
    intro b hb
    cases hb with
    | head => exact h.1
    | tail _ hb => exact ih h.2 b hb
/-- blocks that are turned: rows of ours -/
def arrL : List Tb → Prop
  | [] => True
  | ⟨_, .arr _ _ _ _ 0⟩ :: r => arrL r
  | _ => False
theorem arrL_mem {l : List Tb} (h : arrL l) : ∀ t ∈ l, ∃ ty sz n el, t.b = .arr ty sz n el 0 := by
  induction l with
  | nil => intro b hb; cases hb
  | cons c r ih =>
    obtain ⟨x, b⟩ := c
    intro t ht
    unfold arrL at h
    cases b with
    | arr ty sz n el room =>
      cases room with
      | zero =>
        cases ht with
        | head => exact ⟨_, _, _, _, rfl⟩
        | tail _ ht => exact ih h t ht
      | succ k => exact h.elim
    | _ => exact h.elim
def rawL (ρ : Val) (w : World) : List Tb → Prop
  | [] => True
  | t :: r => rawE ρ w (ρ t.x).1 t.b ∧ rawL ρ w r
theorem rawL_mem {ρ : Val} {w : World} {l : List Tb} (h : rawL ρ w l) : ∀ t ∈ l, rawE ρ w (ρ t.x).1 t.b := by
  induction l with
  | nil => intro b hb; cases hb
  | cons c r ih =>
    intro b hb
    cases hb with
    | head => exact h.1
    | tail _ hb => exact ih h.2 b hb
theorem SatM.turnL {ρ : Val} {m : Mem} {w w' : World} (h : SatM E ρ m w) {l : List Tb} (hl : ownL m l) (ha : arrL l) (hf : Fr w (l.map fun t => (ρ t.x).1) w') (hn : rawL ρ w' l) : SatM E ρ (turnedB m l) w' :=
  h.turnB (ownL_mem hl) hf fun t ht => by
    obtain ⟨ty, sz, n, el, e⟩ := arrL_mem ha t ht
    refine ⟨rawL_mem hn t ht, by rw [e]; trivial, by rw [e]; trivial, fun _ _ _ _ _ h => ?_⟩
    rw [e] at h
    injection h with _ _ _ _ h
    exact h.symm
/-- A call of a closure that turns rows of ours: it answers v. -/
theorem GO.callBw {ops : Array Oper} {rest : List Oper} {o : Oper} {c : Call} {f : FuncId} {avs : List AV} {caps : List Cap} {t : Nat → TV} {m : Mem} {v : Value} (l : List Tb) (hg : o.guard = none) (hop : o.op = .call c) (he : callE t c = .mk f avs caps) (hd : dstOk E.N o.dst = true)
    (hcf : ∀ (args : Array Value) (w : World), (callFunc f args).run P w = .ok (.enter f args) w) (hl : ownL m l) (ha : arrL l)
    (hc : ∀ ρ w, SatM E ρ m w → (∀ v ∈ avs, v.ok ρ m) → (∀ v ∈ caps, v.ok m) → Calls P f (avs.map (AV.conc ρ) ++ caps.map (Cap.conc ρ)).toArray w fun e w' => e = .returned v ∧ Fr w (l.map fun t => (ρ t.x).1) w' ∧ rawL ρ w' l)
    (k : GO P E ops K rest ⟨Sx.putT t o.dst (toTV v), turnedB m l⟩) : GO P E ops K (o :: rest) ⟨t, m⟩ := by
  refine GO.call hg hop he hcf (fun ρ a w hs hok hok2 => (hc ρ w hs.mem hok hok2).mono ?_)
  rintro e w' ⟨rfl, hf, hn⟩
  have hm := hs.mem.turnL hl ha hf hn
  have hsome : ∀ y, (m y).isSome = true → (turnedB m l y).isSome = true := by
    intro y hy
    rcases turnedB_at (m := m) (l := l) y with ⟨b, _, _, h3⟩ | ⟨_, h2⟩
    · rw [h3]; rfl
    · rw [h2]; exact hy
  exact ⟨v, ρ, _, rfl, (hs.move hm hsome (fun _ _ => rfl)).putT (dstOk_lt hd) (toTV_rep _ _ v), k⟩
/-- The same under a guard that is known to let it run. -/
theorem GO.callBwT {ops : Array Oper} {rest : List Oper} {o : Oper} {c : Call} {j : Nat} {want : Bool} {f : FuncId} {avs : List AV} {caps : List Cap} {t : Nat → TV} {m : Mem} {v : Value} {av : AV} (l : List Tb) (hg : o.guard = some (j, want)) (hb : guardB ops t j want = some true) (hop : o.op = .call c)
    (hob : AllP (stripObs t j want true (slotsOf o.op.operands.toList)))
    (he : callE (tG t j want (slotsOf o.op.operands.toList)) c = .mk f avs caps) (hd : dstOk E.N o.dst = true)
    (hcf : ∀ (args : Array Value) (w : World), (callFunc f args).run P w = .ok (.enter f args) w) (hl : ownL m l) (ha : arrL l) (hv : toTV v = .v av)
    (hc : ∀ ρ w, SatM E ρ m w → (∀ v ∈ avs, v.ok ρ m) → (∀ v ∈ caps, v.ok m) → Calls P f (avs.map (AV.conc ρ) ++ caps.map (Cap.conc ρ)).toArray w fun e w' => e = .returned v ∧ Fr w (l.map fun t => (ρ t.x).1) w' ∧ rawL ρ w' l)
    (k : GO P E ops K rest ⟨Sx.putT t o.dst (.grd j want true av), turnedB m l⟩) : GO P E ops K (o :: rest) ⟨t, m⟩ := by
  intro ρ a w hs
  have hw := wanted_cond (ops := ops) hs hg hb
  unfold wpList
  rw [hw, if_pos rfl]
  refine .inl ?_
  obtain ⟨hr, hok, hok2⟩ := call_run (hs.tG hob rfl) hop he hcf
  unfold Oper.wp
  rw [hr]
  refine (hc ρ w hs.mem hok hok2).mono ?_
  rintro e w' ⟨rfl, hf, hn⟩
  have hm := hs.mem.turnL hl ha hf hn
  have hsome : ∀ y, (m y).isSome = true → (turnedB m l y).isSome = true := by
    intro y hy
    rcases turnedB_at (m := m) (l := l) y with ⟨b, _, _, h3⟩ | ⟨_, h2⟩
    · rw [h3]; rfl
    · rw [h2]; exact hy
  have hrep := toTV_rep ρ (turnedB m l) v
  rw [hv] at hrep
  exact k ρ _ w' ((hs.move hm hsome (fun _ _ => rfl)).putT (dstOk_lt hd) (tv := .grd j want true av) ⟨fun _ => hrep, fun h => (by cases h)⟩)
/-- An operation under a guard that is known to shut it out. -/
theorem GO.shut {ops : Array Oper} {rest : List Oper} {o : Oper} {j : Nat} {want : Bool} {t : Nat → TV} {m : Mem} (av : AV) (hg : o.guard = some (j, want)) (hb : guardB ops t j want = some false) (hd : dstOk E.N o.dst = true)
    (k : GO P E ops K rest ⟨Sx.putT t o.dst (.grd j want false av), m⟩) : GO P E ops K (o :: rest) ⟨t, m⟩ := by
  intro ρ a w hs
  have hw := wanted_cond (ops := ops) hs hg hb
  unfold wpList
  rw [hw, if_neg (by simp)]
  exact k ρ _ w (hs.putT (dstOk_lt hd) (tv := .grd j want false av) ⟨fun h => (by cases h), fun _ => rfl⟩)
/-! ### The same in regions that draw their order -/
def msB : List Tb → List (Nat × Blk)
  | [] => []
  | b :: r => (b.x, b.b) :: msB r
theorem upm_msB (m : Mem) (l : List Tb) : upm m (msB l) = turnedB m l := by
  induction l with
  | nil => rfl
  | cons b r ih =>
    funext y
    have := congrFun ih y
    simp only [upm, msB, mget, turnedB, up] at this ⊢
    cases Nat.beq y b.x <;> simp_all
theorem ownL_le {m m' : Mem} (hle : LeM m m') {l : List Tb} (h : ownL m l) : ownL m' l := by
  induction l with
  | nil => trivial
  | cons b r ih => exact ⟨h.1.imp fun b0 hb => ⟨LeM.at hle hb.1, hb.2⟩, ih h.2⟩
theorem isSome_turnedB {m : Mem} {l : List Tb} (y : Nat) (hy : (m y).isSome = true) : (turnedB m l y).isSome = true := by
  rcases turnedB_at (m := m) (l := l) y with ⟨b, _, _, h3⟩ | ⟨_, h2⟩
  · rw [h3]; rfl
  · rw [h2]; exact hy
theorem Steps.callBw {ops : Array Oper} {o : Oper} {c : Call} {f : FuncId} {avs : List AV} {caps : List Cap} {v : Value} {C : St} (l : List Tb) (hg : o.guard = none) (hop : o.op = .call c) (he : callE C.t c = .mk f avs caps) (hd : dstOk E.N o.dst = true)
    (hcf : ∀ (args : Array Value) (w : World), (callFunc f args).run P w = .ok (.enter f args) w) (hl : ownL C.m l) (ha : arrL l)
    (hc : ∀ m, LeM C.m m → ∀ ρ w, SatM E ρ m w → (∀ v ∈ avs, v.ok ρ m) → (∀ v ∈ caps, v.ok m) → Calls P f (avs.map (AV.conc ρ) ++ caps.map (Cap.conc ρ)).toArray w fun e w' => e = .returned v ∧ Fr w (l.map fun t => (ρ t.x).1) w' ∧ rawL ρ w' l) : Steps P E ops o C (toTV v) (msB l) := by
  intro st hle ρ a w hs Kc Q hk
  have hs' := hs.weakT hle.t
  obtain ⟨hr, hok, hok2⟩ := call_run hs' hop he hcf
  rw [if_pos (by simp [Region.wanted, hg])]
  unfold Oper.wp
  rw [hr]
  refine (hc st.m hle.m ρ w hs.mem hok hok2).mono ?_
  rintro e w' ⟨rfl, hf, hn⟩
  have hm := hs.mem.turnL (ownL_le hle.m hl) ha hf hn
  rw [upm_msB] at hk
  exact hk ρ _ w' ((hs.move hm (fun y hy => isSome_turnedB y hy) (fun _ _ => rfl)).putT (dstOk_lt hd) (toTV_rep _ _ v))
theorem Steps.callBwT {ops : Array Oper} {o : Oper} {c : Call} {j : Nat} {want cb : Bool} {f : FuncId} {avs : List AV} {caps : List Cap} {v : Value} {av : AV} {C : St} (l : List Tb) (hct : cb = true) (hg : o.guard = some (j, want)) (hb : guardB ops C.t j want = some cb) (hop : o.op = .call c)
    (hob : AllP (stripObs C.t j want cb (slotsOf o.op.operands.toList)))
    (he : callE (tG C.t j want (slotsOf o.op.operands.toList)) c = .mk f avs caps) (hd : dstOk E.N o.dst = true)
    (hcf : ∀ (args : Array Value) (w : World), (callFunc f args).run P w = .ok (.enter f args) w) (hl : ownL C.m l) (ha : arrL l) (hv : toTV v = .v av)
    (hc : ∀ m, LeM C.m m → ∀ ρ w, SatM E ρ m w → (∀ v ∈ avs, v.ok ρ m) → (∀ v ∈ caps, v.ok m) → Calls P f (avs.map (AV.conc ρ) ++ caps.map (Cap.conc ρ)).toArray w fun e w' => e = .returned v ∧ Fr w (l.map fun t => (ρ t.x).1) w' ∧ rawL ρ w' l) : Steps P E ops o C (.grd j want cb av) (msB l) := by
  subst hct
  intro st hle ρ a w hs Kc Q hk
  have hs' := hs.weakT hle.t
  have hw := wanted_cond (ops := ops) hs' hg hb
  rw [hw, if_pos rfl]
  obtain ⟨hr, hok, hok2⟩ := call_run (hs'.tG hob rfl) hop he hcf
  unfold Oper.wp
  rw [hr]
  refine (hc st.m hle.m ρ w hs.mem hok hok2).mono ?_
  rintro e w' ⟨rfl, hf, hn⟩
  have hm := hs.mem.turnL (ownL_le hle.m hl) ha hf hn
  have hrep := toTV_rep ρ (turnedB st.m l) v
  rw [hv] at hrep
  rw [upm_msB] at hk
  exact hk ρ _ w' ((hs.move hm (fun y hy => isSome_turnedB y hy) (fun _ _ => rfl)).putT (dstOk_lt hd) (tv := .grd j want true av) ⟨fun _ => hrep, fun h => (by cases h)⟩)
theorem Steps.shut {ops : Array Oper} {o : Oper} {j : Nat} {want cb : Bool} {C : St} (av : AV) (hct : cb = false) (hg : o.guard = some (j, want)) (hb : guardB ops C.t j want = some cb) (hd : dstOk E.N o.dst = true) : Steps P E ops o C (.grd j want cb av) [] := by
  subst hct
  intro st hle ρ a w hs Kc Q hk
  have hs' := hs.weakT hle.t
  have hw := wanted_cond (ops := ops) hs' hg hb
  rw [hw, if_neg (by simp)]
  exact hk ρ _ w (hs.putT (dstOk_lt hd) (tv := .grd j want false av) ⟨fun h => (by cases h), fun _ => rfl⟩)
section
variable {l : List Oper} {cls : List Nat} {X : List (Nat × Nat)} {base : St}
theorem GD.callBw {recs : List DR} {o : Oper} {rest : List Oper} {t : Nat → TV} {m : Mem} {c : Call} {f : FuncId} {avs : List AV} {caps : List Cap} {v : Value} (tl : List Tb) (i : Nat) (hi : recs.length = i) (hg : o.guard = none) (hop : o.op = .call c) (he : callE (canF l cls X base i recs).t c = .mk f avs caps) (hd : dstOk E.N o.dst = true) (hn : Wok X i o (msB tl) = true)
    (hcf : ∀ (args : Array Value) (w : World), (callFunc f args).run P w = .ok (.enter f args) w) (hl : ownL (canF l cls X base i recs).m tl) (ha : arrL tl)
    (hc : ∀ m, LeM (canF l cls X base i recs).m m → ∀ ρ w, SatM E ρ m w → (∀ v ∈ avs, v.ok ρ m) → (∀ v ∈ caps, v.ok m) → Calls P f (avs.map (AV.conc ρ) ++ caps.map (Cap.conc ρ)).toArray w fun e w' => e = .returned v ∧ Fr w (tl.map fun t => (ρ t.x).1) w' ∧ rawL ρ w' tl)
    (k : GD P E K l cls X base (⟨o, toTV v, msB tl⟩ :: recs) rest (Sx.putT t o.dst (toTV v)) (upm m (msB tl))) : GD P E K l cls X base recs (o :: rest) t m :=
  GD.step (Steps.callBw tl hg hop (by rw [← canF_eq hi]; exact he) hd hcf (by rw [← canF_eq hi]; exact hl) ha (by rw [← canF_eq hi]; exact hc)) (by rw [hi]; exact hn) k
theorem GD.callBwT {recs : List DR} {o : Oper} {rest : List Oper} {t : Nat → TV} {m : Mem} {c : Call} {j : Nat} {want cb : Bool} {f : FuncId} {avs : List AV} {caps : List Cap} {v : Value} {av : AV} (tl : List Tb) (i : Nat) (hi : recs.length = i) (hct : cb = true) (hg : o.guard = some (j, want)) (hb : guardB l.toArray (canF l cls X base i recs).t j want = some cb) (hop : o.op = .call c)
    (hob : AllP (stripObs (canF l cls X base i recs).t j want cb (slotsOf o.op.operands.toList)))
    (he : callE (tG (canF l cls X base i recs).t j want (slotsOf o.op.operands.toList)) c = .mk f avs caps) (hd : dstOk E.N o.dst = true) (hn : Wok X i o (msB tl) = true)
    (hcf : ∀ (args : Array Value) (w : World), (callFunc f args).run P w = .ok (.enter f args) w) (hl : ownL (canF l cls X base i recs).m tl) (ha : arrL tl) (hv : toTV v = .v av)
    (hc : ∀ m, LeM (canF l cls X base i recs).m m → ∀ ρ w, SatM E ρ m w → (∀ v ∈ avs, v.ok ρ m) → (∀ v ∈ caps, v.ok m) → Calls P f (avs.map (AV.conc ρ) ++ caps.map (Cap.conc ρ)).toArray w fun e w' => e = .returned v ∧ Fr w (tl.map fun t => (ρ t.x).1) w' ∧ rawL ρ w' tl)
    (k : GD P E K l cls X base (⟨o, .grd j want cb av, msB tl⟩ :: recs) rest (Sx.putT t o.dst (.grd j want cb av)) (upm m (msB tl))) : GD P E K l cls X base recs (o :: rest) t m := by
  rw [canF_eq hi] at hb hob he hl hc
  exact GD.step (Steps.callBwT tl hct hg hb hop hob he hd hcf hl ha hv hc) (by rw [hi]; exact hn) k
theorem GD.shut {recs : List DR} {o : Oper} {rest : List Oper} {t : Nat → TV} {m : Mem} {j : Nat} {want cb : Bool} (av : AV) (i : Nat) (hi : recs.length = i) (hct : cb = false) (hg : o.guard = some (j, want)) (hb : guardB l.toArray (canF l cls X base i recs).t j want = some cb) (hd : dstOk E.N o.dst = true)
    (k : GD P E K l cls X base (⟨o, .grd j want cb av, []⟩ :: recs) rest (Sx.putT t o.dst (.grd j want cb av)) m) : GD P E K l cls X base recs (o :: rest) t m := by
  rw [canF_eq hi] at hb
  exact GD.step (Steps.shut av hct hg hb hd) rfl k
end
end
end Go.Sx
/- The symbolic executor, part AD: answers of any shape (plain parts and rows that the call has made), in any order; a whole array's element at an unknown place; appending to a list from nothing on. Generic over P. -/
set_option linter.unusedVariables false
set_option linter.unusedSimpArgs false
namespace Go.Sx
open Go.RowKit
theorem nbeq {i y : Nat} (e : i ≠ y) : Nat.beq i y = false := by
  cases h : Nat.beq i y with
  | false => rfl
  | true => exact absurd (Nat.eq_of_beq_eq_true h) e
theorem nx {a b : Nat} (h : Nat.beq a b = false) : a ≠ b := fun e => by subst e; simp at h
/-! ### Shapes of answers -/
/-- A part of an answer: a plain value, or a row of n elements of sz cells. -/
inductive RC where
  | p (v : Value)
  | r (n sz : Nat) (el : Nat → List Value)
inductive RV where
  | c (a : RC)
  | agg (l : List RC)
def RC.says (w w' : World) : RC → Value → Prop
  | .p v, u => u = v
  | .r n sz el, u => ∃ A c, u = .slice A n c ∧ n ≤ c ∧ (∀ a, A = some a → a.spot = none) ∧ RdNew w w' A n sz el
def saysL (w w' : World) : List RC → List Value → Prop
  | [], [] => True
  | a :: r, u :: s => a.says w w' u ∧ saysL w w' r s
  | _, _ => False
def flatV : List RV → List RC
  | [] => []
  | .c a :: r => a :: flatV r
  | .agg l :: r => l ++ flatV r
def valL : List RV → List Value → List Value
  | .c _ :: r, v :: s => v :: valL r s
  | .agg l :: r, s => .agg (s.take l.length).toArray :: valL r (s.drop l.length)
  | _, _ => []
def tupV : List Value → Value
  | [v] => v
  | l => .tuple l.toArray
/-- The answer has this shape. -/
def Ans (w w' : World) (rvs : List RV) (e : Ending) : Prop := ∃ cs, saysL w w' (flatV rvs) cs ∧ e = .returned (tupV (valL rvs cs))
/-! ### On the caller's side: rows get names -/
def rowM (m : Mem) (x n sz : Nat) (el : Nat → List Value) : Mem := up (up m x (some (.ro sz n el))) (x + 50) (some (.ro 0 0 fun _ => []))
def acL (g : Nat) : List RC → List Nat → List AC
  | .p v :: r, q => .k v :: acL g r q
  | .r n _ _ :: r, x :: q => .row x n g :: acL g r q
  | _, _ => []
def mL (m : Mem) : List RC → List Nat → Mem
  | .p _ :: r, q => mL m r q
  | .r n sz el :: r, x :: q => mL (rowM m x n sz el) r q
  | _, _ => m
def okN (m : Mem) : List RC → List Nat → Prop
  | [], _ => True
  | .p _ :: r, q => okN m r q
  | .r n sz el :: r, x :: q => m x = none ∧ m (x + 50) = none ∧ Nat.blt (x + 50) 1000 = true ∧ okN (rowM m x n sz el) r q
  | .r .. :: _, [] => False
def avL : List RV → List AC → List AV
  | .c _ :: r, a :: s => .c a :: avL r s
  | .agg l :: r, s => .agg (s.take l.length) :: avL r (s.drop l.length)
  | _, _ => []
def tvL : List AV → TV
  | [a] => .v a
  | l => .tup l
theorem avL_conc (ρ : Val) : ∀ (rvs : List RV) (acs : List AC), (avL rvs acs).map (AV.conc ρ) = valL rvs (acs.map (AC.conc ρ))
  | [], _ => rfl
  | .c _ :: r, [] => rfl
  | .c a :: r, b :: s => by
    simp only [avL, List.map_cons, valL, avL_conc ρ r s]
    rfl
  | .agg l :: r, s => by
    simp only [avL, List.map_cons, valL, avL_conc ρ r, List.map_drop, AV.conc, List.map_take]
theorem avL_ok {ρ : Val} {m : Mem} : ∀ (rvs : List RV) (acs : List AC), (∀ a ∈ acs, a.ok ρ m) → ∀ a ∈ avL rvs acs, a.ok ρ m
  | [], _, _ => fun a h => by cases h
  | .c _ :: r, [], _ => fun a h => by cases h
  | .c _ :: r, b :: s, h => fun a ha => by
    cases ha with
    | head => exact h b (.head _)
    | tail _ ha => exact avL_ok r s (fun a ha => h a (.tail _ ha)) a ha
  | .agg l :: r, s, h => fun a ha => by
    cases ha with
    | head => exact fun a ha => h a (List.mem_of_mem_take ha)
    | tail _ ha => exact avL_ok r _ (fun a ha => h a (List.mem_of_mem_drop ha)) a ha
theorem tvL_rep {ρ : Val} {m : Mem} {l : List AV} (h : ∀ a ∈ l, a.ok ρ m) : (tvL l).rep ρ m (tupV (l.map (AV.conc ρ))) := by
  match l, h with
  | [a], h => exact ⟨h a (.head _), rfl⟩
  | [], h => exact ⟨h, rfl⟩
  | a :: b :: r, h => exact ⟨h, rfl⟩
theorem isSome_rowM {m : Mem} {x n sz : Nat} {el : Nat → List Value} (y : Nat) (h : (m y).isSome = true) : (rowM m x n sz el y).isSome = true := isSome_up y (isSome_up y h)
section
variable {P : Program} {E : Env} {K : Exit → St → Prop} {T : Tab}
theorem SatM.addRow {ρ : Val} {m : Mem} {w' : World} {g0 : Nat} (h : SatM E ρ m w') (hlt : ∀ y b, m y = some b → b.own → (ρ y).1 < g0) {x n sz c : Nat} (hx : m x = none) (hx2 : m (x + 50) = none) (hxb : Nat.blt (x + 50) 1000 = true) {A : Option Addr} {el : Nat → List Value}
    (hr : 0 < n → ∃ b o, A = some ⟨b, o, none⟩ ∧ g0 ≤ b ∧ b < w'.heap.size ∧ ∀ i, i < n → (el i).length = sz ∧ ∀ j, j < sz → w'.cell? ⟨b, o + (i * sz + j), none⟩ = (el i)[j]?) (hsp : ∀ a, A = some a → a.spot = none) (hcn : n ≤ c) :
    ∃ ρ' : Val, (∀ y, (m y).isSome = true → ρ' y = ρ y) ∧ SatM E ρ' (rowM m x n sz el) w' ∧ AC.ok ρ' (rowM m x n sz el) (.row x n g0) ∧ AC.conc ρ' (.row x n g0) = .slice A n c ∧ ∀ y b, rowM m x n sz el y = some b → b.own → (ρ' y).1 < g0 := by
  have hxb : x + 50 < 1000 := by simpa [Nat.blt_eq] using hxb
  obtain ⟨p, hp0⟩ : ∃ p : Nat × Nat, p = (A.map fun a => (a.block, a.off)).getD (0, 0) := ⟨_, rfl⟩
  obtain ⟨q, hq0⟩ : ∃ q : Nat × Nat, q = (c, (A.map fun _ => 1).getD 0) := ⟨_, rfl⟩
  obtain ⟨ρ', hρ'⟩ : ∃ ρ' : Val, ρ' = up (up ρ x p) (x + 50) q := ⟨_, rfl⟩
  have e1 : ρ' x = p := by rw [hρ', up_other _ _ (by omega), up_same]
  have e2 : ρ' (x + 50) = q := by rw [hρ', up_same]
  have e3 : ∀ y, y ≠ x → y ≠ x + 50 → ρ' y = ρ y := fun y h1 h2 => by rw [hρ', up_other _ _ h2, up_other _ _ h1]
  have hρ : ∀ y, (m y).isSome = true → ρ' y = ρ y := fun y hy => e3 y (fun e => by subst e; simp [hx] at hy) (fun e => by subst e; simp [hx2] at hy)
  have hm : ∀ y b, rowM m x n sz el y = some b → (y = x + 50 ∧ b = .ro 0 0 fun _ => []) ∨ (y = x ∧ b = .ro sz n el) ∨ (y ≠ x ∧ y ≠ x + 50 ∧ m y = some b) := by
    intro y b hy
    unfold rowM at hy
    by_cases h1 : y = x + 50
    · subst h1
      rw [up_same] at hy
      injection hy with hy
      exact .inl ⟨rfl, hy.symm⟩
    · rw [up_other _ _ h1] at hy
      by_cases h2 : y = x
      · subst h2
        rw [up_same] at hy
        injection hy with hy
        exact .inr (.inl ⟨rfl, hy.symm⟩)
      · rw [up_other _ _ h2] at hy
        exact .inr (.inr ⟨h2, h1, hy⟩)
  have hp : 0 < n → g0 ≤ p.1 ∧ p.1 < w'.heap.size ∧ A = some ⟨p.1, p.2, none⟩ ∧ ∀ i, i < n → (el i).length = sz ∧ ∀ j, j < sz → w'.cell? ⟨p.1, p.2 + (i * sz + j), none⟩ = (el i)[j]? := by
    intro h0
    obtain ⟨b, o, rfl, h1, h2, h3⟩ := hr h0
    subst hp0
    exact ⟨h1, h2, rfl, h3⟩
  have hsome : ∀ y, (m y).isSome = true → (rowM m x n sz el y).isSome = true := fun y hy => isSome_rowM y hy
  refine ⟨ρ', hρ, ⟨h.fr, fun r hr => ?_, fun y b hy => ?_, fun y z b d hy hz hb hd hne => ?_⟩, ⟨?_, ?_, fun h0 => ?_, ?_⟩, ?_, fun y b hy hb => ?_⟩
  · have := h.bo r hr
    rw [e3 _ (by omega) (by omega)]; exact this
  · rcases hm y b hy with ⟨rfl, rfl⟩ | ⟨rfl, rfl⟩ | ⟨h1, h2, h3⟩
    · intro h0; omega
    · intro h0
      obtain ⟨_, h2, _, h3⟩ := hp h0
      rw [e1]
      exact ⟨h2, h3⟩
    · have hk := h.ok y b h3
      have ey : ρ' y = ρ y := e3 y h1 h2
      cases b with
      | var ty cells =>
        have hcm : cells.map (AC.conc ρ') = cells.map (AC.conc ρ) := List.map_congr_left fun c hm => AC.conc_mono hρ (hk.2.2.2 c hm)
        exact ⟨by rw [ey]; exact hk.1, by rw [ey]; exact hk.2.1, by rw [ey, hcm]; exact hk.2.2.1, fun c hc => AC.ok_mono hsome hρ (hk.2.2.2 c hc)⟩
      | arr ty sz n el room =>
        obtain ⟨k1, k2, a, ha, hs, he⟩ := hk
        exact ⟨by rw [ey]; exact k1, by rw [ey]; exact k2, a, by rw [ey]; exact ha, hs, he⟩
      | obj Q =>
        obtain ⟨k1, k2, a, ha, hs⟩ := hk
        exact ⟨by rw [ey]; exact k1, by rw [ey]; exact k2, a, by rw [ey]; exact ha, hs⟩
      | ro sz n el =>
        intro hn
        rw [ey]
        exact hk hn
  · rcases hm y b hy with ⟨rfl, rfl⟩ | ⟨rfl, rfl⟩ | ⟨h1, h2, h3⟩
    · exact hb.elim
    · exact hb.elim
    · rcases hm z d hz with ⟨rfl, rfl⟩ | ⟨rfl, rfl⟩ | ⟨k1, k2, k3⟩
      · exact absurd hd (Nat.lt_irrefl 0)
      · have := hlt y b h3 hb
        have := (hp hd).1
        rw [e1, e3 y h1 h2]
        omega
      · rw [e3 y h1 h2, e3 z k1 k2]
        exact h.ne y z b d h3 k3 hb hd hne
  · unfold rowM
    rw [up_other _ _ (by omega), up_same]; rfl
  · unfold rowM
    rw [up_same]; rfl
  · obtain ⟨h1, h2, h3, _⟩ := hp h0
    refine ⟨?_, by rw [e1]; exact h1⟩
    rw [e2, hq0, h3]
    exact Nat.one_ne_zero
  · rw [e2, hq0]
    exact hcn
  · simp only [AC.conc, rowAd, e1, e2, hq0, hp0]
    cases A with
    | none => rfl
    | some a =>
      have := hsp a rfl
      obtain ⟨b, o, s⟩ := a
      simp only at this
      subst this
      rfl
  · rcases hm y b hy with ⟨rfl, rfl⟩ | ⟨rfl, rfl⟩ | ⟨h1, h2, h3⟩
    · exact hb.elim
    · exact hb.elim
    · rw [e3 y h1 h2]; exact hlt y b h3 hb
theorem SatM.addL {w w' : World} {g : Nat} (hg : g ≤ w.heap.size) : ∀ (l : List RC) (q : List Nat) (cs : List Value) (m : Mem) (ρ : Val), SatM E ρ m w' → (∀ y b, m y = some b → b.own → (ρ y).1 < w.heap.size) → saysL w w' l cs → okN m l q →
    ∃ ρ' : Val, (∀ y, (m y).isSome = true → ρ' y = ρ y) ∧ (∀ y, (m y).isSome = true → (mL m l q y).isSome = true) ∧ SatM E ρ' (mL m l q) w' ∧ (∀ a ∈ acL g l q, a.ok ρ' (mL m l q)) ∧ (acL g l q).map (AC.conc ρ') = cs
  | [], q, [], m, ρ, h, _, _, _ => ⟨ρ, fun _ _ => rfl, fun _ h => h, h, fun a ha => (by cases ha), rfl⟩
  | [], q, _ :: _, m, ρ, _, _, hs, _ => hs.elim
  | _ :: _, q, [], m, ρ, _, _, hs, _ => by cases hs
  | .p v :: r, q, u :: s, m, ρ, h, hlt, hs, hn => by
    obtain ⟨ρ', h1, h2, h3, h4, h5⟩ := SatM.addL hg r q s m ρ h hlt hs.2 hn
    refine ⟨ρ', h1, h2, h3, fun a ha => ?_, ?_⟩
    · cases ha with
      | head => trivial
      | tail _ ha => exact h4 a ha
    · show AC.conc ρ' (.k v) :: (acL g r q).map (AC.conc ρ') = u :: s
      rw [h5]
      have : u = v := hs.1
      subst this
      rfl
  | .r n sz el :: r, [], u :: s, m, ρ, h, hlt, hs, hn => hn.elim
  | .r n sz el :: r, x :: q, u :: s, m, ρ, h, hlt, hs, hn => by
    obtain ⟨A, c, hu, hcn, hsp, hr⟩ := hs.1
    obtain ⟨k1, k2, k3, k4⟩ := hn
    obtain ⟨ρ1, g1, g2, g3, g4, g5⟩ := h.addRow hlt k1 k2 k3 hr hsp hcn
    obtain ⟨ρ', h1, h2, h3, h4, h5⟩ := SatM.addL hg r q s (rowM m x n sz el) ρ1 g2 g5 hs.2 k4
    have hsome : ∀ y, (m y).isSome = true → (rowM m x n sz el y).isSome = true := fun y hy => isSome_rowM y hy
    have okrow : AC.ok ρ' (mL (rowM m x n sz el) r q) (.row x n g) := by
      have o1 := AC.ok_mono h2 h1 g3
      exact ⟨o1.1, o1.2.1, fun h0 => ⟨(o1.2.2.1 h0).1, Nat.le_trans hg (o1.2.2.1 h0).2⟩, o1.2.2.2⟩
    refine ⟨ρ', fun y hy => (h1 y (hsome y hy)).trans (g1 y hy), fun y hy => h2 y (hsome y hy), h3, fun a ha => ?_, ?_⟩
    · cases ha with
      | head => exact okrow
      | tail _ ha => exact h4 a ha
    · show AC.conc ρ' (.row x n g) :: (acL g r q).map (AC.conc ρ') = u :: s
      rw [h5, hu, ← g4]
      congr 1
      have := AC.conc_mono h1 g3
      exact this
/-- What comes of an answer in the caller's state. -/
theorem SatM.answer {ρ : Val} {m : Mem} {w w' : World} (h : SatM E ρ m w) (hb : Below w.heap.size w w') {rvs : List RV} {cs : List Value} (hs : saysL w w' (flatV rvs) cs) (q : List Nat) (hn : okN m (flatV rvs) q) :
    ∃ ρ' : Val, (∀ y, (m y).isSome = true → ρ' y = ρ y) ∧ (∀ y, (m y).isSome = true → (mL m (flatV rvs) q y).isSome = true) ∧ SatM E ρ' (mL m (flatV rvs) q) w' ∧ (tvL (avL rvs (acL E.w0.heap.size (flatV rvs) q))).rep ρ' (mL m (flatV rvs) q) (tupV (valL rvs cs)) := by
  obtain ⟨ρ', h1, h2, h3, h4, h5⟩ := SatM.addL (w := w) (g := E.w0.heap.size) h.fr.size (flatV rvs) q cs m ρ (h.below hb) (fun y b hy ho => h.lt hy ho) hs hn
  refine ⟨ρ', h1, h2, h3, ?_⟩
  have := tvL_rep (avL_ok rvs (acL E.w0.heap.size (flatV rvs) q) h4)
  rw [avL_conc, h5] at this
  exact this
/-- A row that a call has made can be read. -/
theorem SatM.rowR {ρ : Val} {m : Mem} {w : World} (h : SatM E ρ m w) {x n sz n2 g : Nat} {el : Nat → List Value} (hx : m x = some (.ro sz n2 el)) (ho : AC.ok ρ m (.row x n g)) (hn : n ≤ n2) : RdRow w (rowAd ρ x) n sz el := by
  intro h0
  obtain ⟨h1, h2⟩ := h.ok x _ hx (by omega)
  exact ⟨(ρ x).1, (ρ x).2, if_neg (ho.2.2.1 h0).1, h1, fun i hi => h2 i (by omega)⟩
/-- A call whose answer has a shape. -/
theorem GO.callAns {ops : Array Oper} {rest : List Oper} {o : Oper} {c : Call} {f : FuncId} {avs : List AV} {caps : List Cap} {t : Nat → TV} {m : Mem} (rvs : List RV) (q : List Nat) (hg : o.guard = none) (hop : o.op = .call c) (he : callE t c = .mk f avs caps) (hd : dstOk E.N o.dst = true) (hn : okN m (flatV rvs) q)
    (hcf : ∀ (args : Array Value) (w : World), (callFunc f args).run P w = .ok (.enter f args) w)
    (hc : ∀ ρ w, SatM E ρ m w → (∀ v ∈ avs, v.ok ρ m) → Calls P f (avs.map (AV.conc ρ) ++ caps.map (Cap.conc ρ)).toArray w fun e w' => Ans w w' rvs e ∧ Below w.heap.size w w')
    (k : GO P E ops K rest ⟨Sx.putT t o.dst (tvL (avL rvs (acL E.w0.heap.size (flatV rvs) q))), mL m (flatV rvs) q⟩) : GO P E ops K (o :: rest) ⟨t, m⟩ := by
  refine GO.call hg hop he hcf (fun ρ a w hs hok _ => (hc ρ w hs.mem hok).mono ?_)
  rintro e w' ⟨⟨cs, hs1, rfl⟩, hb⟩
  obtain ⟨ρ', h1, h2, h3, h4⟩ := hs.mem.answer hb hs1 q hn
  exact ⟨_, ρ', _, rfl, (hs.move h3 h2 h1).putT (dstOk_lt hd) h4, k⟩
/-! ### In regions that draw -/
def msL : List RC → List Nat → List (Nat × Blk)
  | .p _ :: r, q => msL r q
  | .r n sz el :: r, x :: q => msL r q ++ [(x + 50, .ro 0 0 fun _ => []), (x, .ro sz n el)]
  | _, _ => []
theorem mget_app (a b : List (Nat × Blk)) (y : Nat) : mget (a ++ b) y = match mget a y with | some v => some v | none => mget b y := by
  induction a with
  | nil => rfl
  | cons p r ih =>
    simp only [List.cons_append, mget]
    cases Nat.beq y p.1 with
    | true => rfl
    | false => exact ih
theorem upm_msL : ∀ (l : List RC) (q : List Nat) (m : Mem), upm m (msL l q) = mL m l q
  | [], q, m => by cases q <;> rfl
  | .p _ :: r, q, m => upm_msL r q m
  | .r .. :: _, [], m => rfl
  | .r n sz el :: r, x :: q, m => by
    show upm m (msL r q ++ _) = mL (rowM m x n sz el) r q
    rw [← upm_msL r q]
    funext y
    simp only [upm, mget_app, rowM, up, mget]
    cases mget (msL r q) y with
    | some v => rfl
    | none =>
      cases Nat.beq y (x + 50) with
      | true => rfl
      | false => cases Nat.beq y x <;> rfl
theorem okN_same : ∀ {l : List RC} {q : List Nat} {m m' : Mem}, (∀ y, (mget (msL l q) y).isSome = true → m' y = m y) → okN m l q → okN m' l q
  | [], q, _, _, _, _ => by cases q <;> trivial
  | .p _ :: r, q, m, m', hq, h => okN_same (l := r) (q := q) hq h
  | .r .. :: _, [], _, _, _, h => h.elim
  | .r n sz el :: r, x :: q, m, m', hq, h => by
    obtain ⟨h1, h2, h3, h4⟩ := h
    have at1 : ∀ y, (y = x ∨ y = x + 50) → m' y = m y := fun y hy => hq y (by
      show (mget (msL r q ++ _) y).isSome = true
      rw [mget_app]
      cases mget (msL r q) y with
      | some v => rfl
      | none =>
        simp only [mget]
        rcases hy with rfl | rfl
        · cases Nat.beq y (y + 50) <;> simp
        · simp)
    refine ⟨by rw [at1 x (.inl rfl)]; exact h1, by rw [at1 _ (.inr rfl)]; exact h2, h3, okN_same (fun y hy => ?_) h4⟩
    have : m' y = m y := hq y (by
      show (mget (msL r q ++ _) y).isSome = true
      rw [mget_app]
      cases hm : mget (msL r q) y with
      | some v => rfl
      | none => rw [hm] at hy; cases hy)
    simp only [rowM, up, this]
theorem Steps.callAns {ops : Array Oper} {o : Oper} {c : Call} {f : FuncId} {avs : List AV} {caps : List Cap} {C : St} (rvs : List RV) (q : List Nat) (hg : o.guard = none) (hop : o.op = .call c) (he : callE C.t c = .mk f avs caps) (hd : dstOk E.N o.dst = true) (hn : okN C.m (flatV rvs) q)
    (hcf : ∀ (args : Array Value) (w : World), (callFunc f args).run P w = .ok (.enter f args) w)
    (hc : ∀ m, LeM C.m m → ∀ ρ w, SatM E ρ m w → (∀ v ∈ avs, v.ok ρ m) → Calls P f (avs.map (AV.conc ρ) ++ caps.map (Cap.conc ρ)).toArray w fun e w' => Ans w w' rvs e ∧ Below w.heap.size w w') :
    Steps P E ops o C (tvL (avL rvs (acL E.w0.heap.size (flatV rvs) q))) (msL (flatV rvs) q) := by
  intro st hle ρ a w hs Kc Q hk
  have hs' := hs.weakT hle.t
  obtain ⟨hr, hok, hok2⟩ := call_run hs' hop he hcf
  rw [if_pos (by simp [Region.wanted, hg])]
  unfold Oper.wp
  rw [hr]
  refine (hc st.m hle.m ρ w hs.mem hok).mono ?_
  rintro e w' ⟨⟨cs, hs1, rfl⟩, hb⟩
  obtain ⟨ρ', h1, h2, h3, h4⟩ := hs.mem.answer hb hs1 q (okN_same hle.n hn)
  refine hk ρ' _ w' ?_
  rw [upm_msL]
  exact (hs.move h3 h2 h1).putT (dstOk_lt hd) h4
theorem GD.callAns {l : List Oper} {cls : List Nat} {X : List (Nat × Nat)} {base : St} {recs : List DR} {o : Oper} {rest : List Oper} {t : Nat → TV} {m : Mem} {c : Call} {f : FuncId} {avs : List AV} {caps : List Cap} (rvs : List RV) (q : List Nat) (i : Nat) (hi : recs.length = i) (hg : o.guard = none) (hop : o.op = .call c) (he : callE (canF l cls X base i recs).t c = .mk f avs caps) (hd : dstOk E.N o.dst = true)
    (hn : okN (canF l cls X base i recs).m (flatV rvs) q) (hw : Wok X i o (msL (flatV rvs) q) = true)
    (hcf : ∀ (args : Array Value) (w : World), (callFunc f args).run P w = .ok (.enter f args) w)
    (hc : ∀ m, LeM (canF l cls X base i recs).m m → ∀ ρ w, SatM E ρ m w → (∀ v ∈ avs, v.ok ρ m) → Calls P f (avs.map (AV.conc ρ) ++ caps.map (Cap.conc ρ)).toArray w fun e w' => Ans w w' rvs e ∧ Below w.heap.size w w')
    (k : GD P E K l cls X base (⟨o, tvL (avL rvs (acL E.w0.heap.size (flatV rvs) q)), msL (flatV rvs) q⟩ :: recs) rest (Sx.putT t o.dst (tvL (avL rvs (acL E.w0.heap.size (flatV rvs) q)))) (upm m (msL (flatV rvs) q))) : GD P E K l cls X base recs (o :: rest) t m := by
  rw [canF_eq hi] at he hn hc
  exact GD.step (Steps.callAns rvs q hg hop he hd hn hcf hc) (by rw [hi]; exact hw) k
/-- An operation under a guard that is known to let it run (one that makes a block, too). -/
theorem Steps.opT (hT : Tab.fine P T) {ops : Array Oper} {o : Oper} {C : St} {j : Nat} {want cb : Bool} {av : AV} {m' : Mem} {obs : List Prop} (hct : cb = true) (hg : o.guard = some (j, want)) (hb : guardB ops C.t j want = some cb)
    (hob : AllP (stripObs C.t j want cb (slotsOf o.op.operands.toList))) (hd : dstOk E.N o.dst = true) (h : evOp T (dx o) (evG C.t j want (slotsOf o.op.operands.toList)) C.m o.op = .ok (.v av) m' obs) (ho : AllP obs) :
    Steps P E ops o C (.grd j want cb av) (msOf (evG C.t j want (slotsOf o.op.operands.toList)) (dx o) o.op m') := by
  subst hct
  intro st hle ρ a w hs Kc Q hk
  have hs' := hs.weakT hle.t
  have hw := wanted_cond (ops := ops) hs' hg hb
  rw [hw, if_pos rfl]
  have hsnd := evOp_sound (P := P) (E := E) (o := o) hT hs.mem (fun _ => rfl) (evG_rep hs' hob rfl) rfl (evOp_mem hle.m hle.d h) ho
  refine Snd.go hs (dstOk_lt hd) (tv := .grd j want true av) ?_ fun ρ' a' w' hs'' => hk ρ' a' w' hs''
  obtain ⟨n, w', ρ', h1, h2, h3, h4, h5⟩ := hsnd
  refine ⟨n, w', ρ', h1, ?_, h3, h4, h5⟩
  rcases h2 with ⟨v, hn, hv⟩ | ⟨_, hn⟩
  · exact .inl ⟨v, hn, fun _ => hv, fun hf => (by cases hf)⟩
  · cases hn
theorem GD.opT (hT : Tab.fine P T) {l : List Oper} {cls : List Nat} {X : List (Nat × Nat)} {base : St} {recs : List DR} {o : Oper} {rest : List Oper} {t : Nat → TV} {m : Mem} {j : Nat} {want cb : Bool} {av : AV} {m' : Mem} {obs : List Prop} {ms : List (Nat × Blk)} (i : Nat) (hi : recs.length = i) (hct : cb = true) (hg : o.guard = some (j, want)) (hb : guardB l.toArray (canF l cls X base i recs).t j want = some cb)
    (hob : AllP (stripObs (canF l cls X base i recs).t j want cb (slotsOf o.op.operands.toList))) (hd : dstOk E.N o.dst = true) (h : evOp T (dx o) (evG (canF l cls X base i recs).t j want (slotsOf o.op.operands.toList)) (canF l cls X base i recs).m o.op = .ok (.v av) m' obs) (ho : AllP obs)
    (hms : msOf (evG (canF l cls X base i recs).t j want (slotsOf o.op.operands.toList)) (dx o) o.op m' = ms) (hw : Wok X i o ms = true)
    (k : GD P E K l cls X base (⟨o, .grd j want cb av, ms⟩ :: recs) rest (Sx.putT t o.dst (.grd j want cb av)) (upm m ms)) : GD P E K l cls X base recs (o :: rest) t m := by
  subst hms
  rw [canF_eq hi] at hb hob h hw k
  exact GD.step (Steps.opT hT hct hg hb hob hd h ho) (by rw [hi]; exact hw) k
theorem Steps.callAnsT {ops : Array Oper} {o : Oper} {c : Call} {j : Nat} {want cb : Bool} {f : FuncId} {avs : List AV} {caps : List Cap} {C : St} {av : AV} (rvs : List RV) (q : List Nat) (hct : cb = true) (hg : o.guard = some (j, want)) (hb : guardB ops C.t j want = some cb) (hop : o.op = .call c)
    (hob : AllP (stripObs C.t j want cb (slotsOf o.op.operands.toList))) (he : callE (tG C.t j want (slotsOf o.op.operands.toList)) c = .mk f avs caps) (hd : dstOk E.N o.dst = true) (hn : okN C.m (flatV rvs) q)
    (hcf : ∀ (args : Array Value) (w : World), (callFunc f args).run P w = .ok (.enter f args) w) (hav : tvL (avL rvs (acL E.w0.heap.size (flatV rvs) q)) = .v av)
    (hc : ∀ m, LeM C.m m → ∀ ρ w, SatM E ρ m w → (∀ v ∈ avs, v.ok ρ m) → Calls P f (avs.map (AV.conc ρ) ++ caps.map (Cap.conc ρ)).toArray w fun e w' => Ans w w' rvs e ∧ Below w.heap.size w w') :
    Steps P E ops o C (.grd j want cb av) (msL (flatV rvs) q) := by
  subst hct
  intro st hle ρ a w hs Kc Q hk
  have hs' := hs.weakT hle.t
  have hw := wanted_cond (ops := ops) hs' hg hb
  rw [hw, if_pos rfl]
  obtain ⟨hr, hok, hok2⟩ := call_run (hs'.tG hob rfl) hop he hcf
  unfold Oper.wp
  rw [hr]
  refine (hc st.m hle.m ρ w hs.mem hok).mono ?_
  rintro e w' ⟨⟨cs, hs1, rfl⟩, hb⟩
  obtain ⟨ρ', h1, h2, h3, h4⟩ := hs.mem.answer hb hs1 q (okN_same hle.n hn)
  rw [hav] at h4
  refine hk ρ' _ w' ?_
  rw [upm_msL]
  exact (hs.move h3 h2 h1).putT (dstOk_lt hd) (tv := .grd j want true av) ⟨fun _ => h4, fun hf => (by cases hf)⟩
theorem GD.callAnsT {l : List Oper} {cls : List Nat} {X : List (Nat × Nat)} {base : St} {recs : List DR} {o : Oper} {rest : List Oper} {t : Nat → TV} {m : Mem} {c : Call} {j : Nat} {want cb : Bool} {f : FuncId} {avs : List AV} {caps : List Cap} {av : AV} (rvs : List RV) (q : List Nat) (i : Nat) (hi : recs.length = i) (hct : cb = true) (hg : o.guard = some (j, want)) (hb : guardB l.toArray (canF l cls X base i recs).t j want = some cb) (hop : o.op = .call c)
    (hob : AllP (stripObs (canF l cls X base i recs).t j want cb (slotsOf o.op.operands.toList))) (he : callE (tG (canF l cls X base i recs).t j want (slotsOf o.op.operands.toList)) c = .mk f avs caps) (hd : dstOk E.N o.dst = true) (hn : okN (canF l cls X base i recs).m (flatV rvs) q) (hw : Wok X i o (msL (flatV rvs) q) = true)
    (hcf : ∀ (args : Array Value) (w : World), (callFunc f args).run P w = .ok (.enter f args) w) (hav : tvL (avL rvs (acL E.w0.heap.size (flatV rvs) q)) = .v av)
    (hc : ∀ m, LeM (canF l cls X base i recs).m m → ∀ ρ w, SatM E ρ m w → (∀ v ∈ avs, v.ok ρ m) → Calls P f (avs.map (AV.conc ρ) ++ caps.map (Cap.conc ρ)).toArray w fun e w' => Ans w w' rvs e ∧ Below w.heap.size w w')
    (k : GD P E K l cls X base (⟨o, .grd j want cb av, msL (flatV rvs) q⟩ :: recs) rest (Sx.putT t o.dst (.grd j want cb av)) (upm m (msL (flatV rvs) q))) : GD P E K l cls X base recs (o :: rest) t m := by
  rw [canF_eq hi] at hb hob he hn hc
  exact GD.step (Steps.callAnsT rvs q hct hg hb hop hob he hd hn hcf hav hc) (by rw [hi]; exact hw) k
end
/-! ### On the callee's side -/
/-- A row in memory that is ours or that a call of ours has made. -/
def rowC (g : Nat) (m : Mem) (n sz : Nat) (el : Nat → List Value) : AC → Prop
  | .k (.slice A len c) => len = n ∧ n = 0 ∧ ∀ a, A = some a → a.spot = none
  | .slc x i0 sz' len c => n ≤ c ∧ rowAt m n sz el (.v (.c (.slc x i0 sz' len c)))
  | .row x len g' => len = n ∧ g ≤ g' ∧ ∃ n2 el2, m x = some (.ro sz n2 el2) ∧ n ≤ n2 ∧ ∀ i, i < n → el i = el2 i
  | _ => False
def cellAt (g : Nat) (m : Mem) : RC → AC → Prop
  | .p v, a => a = .k v
  | .r n sz el, a => rowC g m n sz el a
def cellsAt (g : Nat) (m : Mem) : List RC → List AC → Prop
  | [], [] => True
  | a :: r, b :: s => cellAt g m a b ∧ cellsAt g m r s
  | _, _ => False
def avAt (g : Nat) (m : Mem) : RV → AV → Prop
  | .c a, .c b => cellAt g m a b
  | .agg l, .agg k => cellsAt g m l k
  | _, _ => False
def resAt (T : Tab) (g : Nat) (st : St) : List RV → List ResultVar → Prop
  | [], [] => True
  | rv :: r, x :: s => (∃ av, resOne T st x = .v av ∧ avAt g st.m rv av) ∧ resAt T g st r s
  | _, _ => False
section
variable {P : Program} {E : Env} {K : Exit → St → Prop} {T : Tab}
theorem cellAt_says {w0 : World} {N : Nat} {ρ : Val} {m : Mem} {w : World} (hm : SatM ⟨w0, [], N⟩ ρ m w) {rc : RC} {a : AC} (ha : a.ok ρ m) (h : cellAt w0.heap.size m rc a) : rc.says w0 w (a.conc ρ) := by
  cases rc with
  | p v =>
    have : a = .k v := h
    subst this
    rfl
  | r n sz el =>
    cases a with
    | k v =>
      cases v with
      | slice A len c =>
        obtain ⟨rfl, rfl, h3⟩ := h
        exact ⟨A, c, rfl, Nat.zero_le _, h3, fun h0 => absurd h0 (Nat.lt_irrefl 0)⟩
      | _ => exact h.elim
    | slc x i0 sz' len c =>
      obtain ⟨h1, h2⟩ := h
      obtain ⟨A, c', h3, h4⟩ := rowAt_new hm (tv := .v (.c (.slc x i0 sz' len c))) (v := AC.conc ρ (.slc x i0 sz' len c)) ⟨ha, rfl⟩ h2
      have h5 : Value.slice (some ⟨(ρ x).1, (ρ x).2 + i0 * sz', none⟩) len c = .slice A n c' := h3
      injection h5 with e1 e2 e3
      subst e1; subst e2; subst e3
      exact ⟨_, c, rfl, h1, fun a ha => by injection ha with ha; subst ha; rfl, h4⟩
    | row x len g' =>
      obtain ⟨rfl, hg, n2, el2, hx, hn, hel⟩ := h
      obtain ⟨o1, o2, o3, o4⟩ := ha
      refine ⟨rowAd ρ x, _, rfl, o4, fun a ha => ?_, fun h0 => ?_⟩
      · unfold rowAd at ha
        split at ha
        · cases ha
        · injection ha with ha; subst ha; rfl
      · obtain ⟨h1, h2⟩ := hm.ok x _ hx (by omega)
        refine ⟨(ρ x).1, (ρ x).2, if_neg (o3 h0).1, Nat.le_trans hg (o3 h0).2, h1, fun i hi => ?_⟩
        rw [hel i hi]
        exact h2 i (by omega)
    | _ => exact h.elim
theorem cellsAt_says {w0 : World} {N : Nat} {ρ : Val} {m : Mem} {w : World} (hm : SatM ⟨w0, [], N⟩ ρ m w) : ∀ {l : List RC} {k : List AC}, (∀ a ∈ k, a.ok ρ m) → cellsAt w0.heap.size m l k → saysL w0 w l (k.map (AC.conc ρ)) ∧ k.length = l.length
  | [], [], _, _ => ⟨trivial, rfl⟩
  | [], _ :: _, _, h => h.elim
  | _ :: _, [], _, h => h.elim
  | a :: r, b :: s, ho, h => by
    obtain ⟨h1, h2⟩ := cellsAt_says hm (l := r) (k := s) (fun a ha => ho a (.tail _ ha)) h.2
    exact ⟨⟨cellAt_says hm (ho b (.head _)) h.1, h1⟩, by simp [h2]⟩
theorem saysL_app {w w' : World} : ∀ {a b : List RC} {x y : List Value}, saysL w w' a x → saysL w w' b y → saysL w w' (a ++ b) (x ++ y)
  | [], b, [], y, _, h => h
  | [], _, _ :: _, _, h, _ => h.elim
  | _ :: _, _, [], _, h, _ => h.elim
  | a :: r, b, u :: s, y, h, h2 => ⟨h.1, saysL_app h.2 h2⟩
theorem resAt_run (hT : Tab.fine P T) {w0 : World} {N : Nat} {st : St} {ρ : Val} {a : Act} {w : World} (hs : Sat ⟨w0, [], N⟩ ρ st a w) : ∀ {rvs : List RV} {l : List ResultVar}, resAt T w0.heap.size st rvs l →
    ∃ us cs, (l.mapM (m := Sem) (resSem a)).run P w = .ok us w ∧ saysL w0 w (flatV rvs) cs ∧ us = valL rvs cs
  | [], [], _ => ⟨[], [], rfl, trivial, rfl⟩
  | [], _ :: _, h => h.elim
  | _ :: _, [], h => h.elim
  | rv :: r, x :: s, h => by
    obtain ⟨⟨av, h1, h2⟩, h3⟩ := h
    obtain ⟨us, cs, h4, h5, h6⟩ := resAt_run hT hs h3
    obtain ⟨h7, h8⟩ := resOne_run hT hs h1
    cases rv with
    | c rc =>
      cases av with
      | c b =>
        refine ⟨b.conc ρ :: us, b.conc ρ :: cs, by simp only [List.mapM_cons, Sem.run_bind, h7, h4, Result.andThen_ok, Sem.run_pure]; rfl, ⟨cellAt_says hs.mem h8 h2, h5⟩, by rw [h6]; rfl⟩
      | agg k => exact h2.elim
    | agg l =>
      cases av with
      | c b => exact h2.elim
      | agg k =>
        obtain ⟨g1, g2⟩ := cellsAt_says hs.mem h8 h2
        refine ⟨(AV.agg k).conc ρ :: us, k.map (AC.conc ρ) ++ cs, by simp only [List.mapM_cons, Sem.run_bind, h7, h4, Result.andThen_ok, Sem.run_pure], saysL_app g1 h5, ?_⟩
        have e1 : (k.map (AC.conc ρ) ++ cs).take l.length = k.map (AC.conc ρ) := by rw [← g2, ← @List.length_map _ _ k (AC.conc ρ), List.take_left]
        have e2 : (k.map (AC.conc ρ) ++ cs).drop l.length = cs := by rw [← g2, ← @List.length_map _ _ k (AC.conc ρ), List.drop_left]
        simp only [valL, e1, e2, h6, AV.conc]
theorem tupV_results {P : Program} {fn : Func} {a : Act} {w : World} {us : List Value} (h : (fn.results.toList.mapM (m := Sem) (resSem a)).run P w = .ok us w) : (results fn a.tmps).run P w = .ok (tupV us) w := by
  have e : results fn a.tmps = (fn.results.mapM (m := Sem) (resSem a) >>= fun vs => pure (if h : vs.size = 1 then vs[0] else Value.tuple vs)) := by
    unfold results
    congr 2
  have h3 : (fn.results.mapM (m := Sem) (resSem a)).run P w = .ok us.toArray w := by
    rw [Array.mapM_eq_mapM_toList]
    simp only [Sem.run_map, h, Result.andThen_ok]
  rw [e]
  simp only [Sem.run_bind, h3, Result.andThen_ok, Sem.run_pure]
  congr 1
  match us with
  | [u] => rfl
  | [] => rfl
  | u :: u' :: r => rfl
def endAns (T : Tab) (fn : Func) (g : Nat) (rvs : List RV) : Exit → St → Prop := fun e st => (e = .ret ∨ e = .normal) ∧ resAt T g st rvs fn.results.toList
theorem enterAns (hT : Tab.fine P T) {f : FuncId} {fn : Func} {c : Code} {args : Array Value} {w : World} (rvs : List RV) (hf : P.funcs[f]? = some fn) (hb : fn.body = some c) (N : Nat) (hN : fn.ntmps = N) (avs : List AV) (l : List Inp)
    (hargs : args = (avs.map (AV.conc (inpsV l))).toArray) (hl : Nat.ble avs.length N = true) (hr : allRd w l) (ha : allInps l avs)
    (h : G P ⟨w, [], N⟩ (endAns T fn w.heap.size rvs) c ⟨argsT avs, lkM (inpsM l)⟩) : Calls P f args w fun e w' => Ans w w' rvs e ∧ Below w.heap.size w w' := by
  subst hN
  refine enter (E := ⟨w, [], fn.ntmps⟩) hf hb (inpsV l) (Sat.init hr ha hargs (Nat.le_of_ble_eq_true hl)) (h.mono fun e st hk => ⟨hk.1, fun ρ a w' hs => ?_⟩)
  obtain ⟨us, cs, h1, h2, h3⟩ := resAt_run hT hs hk.2
  exact ⟨_, tupV_results h1, ⟨cs, h2, by rw [h3]⟩, hs.mem.fr.toBelow⟩
theorem endAns.ret {fn : Func} {g : Nat} {rvs : List RV} {st : St} (h : resAt T g st rvs fn.results.toList) : endAns T fn g rvs .ret st := ⟨.inl rfl, h⟩
theorem endAns.norm {fn : Func} {g : Nat} {rvs : List RV} {st : St} (h : resAt T g st rvs fn.results.toList) : endAns T fn g rvs .normal st := ⟨.inr rfl, h⟩
/-! ### A whole array's element -/
theorem dropK_eq {l : List AC} {n : Nat} {K : List AC → RR} (h : n ≤ l.length) : dropK l n K = K (l.drop n) := by
  induction n generalizing l with
  | zero => cases l <;> rfl
  | succ n ih =>
    cases l with
    | nil => simp at h
    | cons a r => exact ih (by simpa using h)
theorem GO.indexAt (hT : Tab.fine P T) {ops : Array Oper} {rest : List Oper} {o : Oper} {t e d N : Nat} {y i : Operand} {dd de : TyD} {t0 : Nat → TV} {m : Mem} {kd : IntKind} (vs : List Value) (k : Nat) (v : Value) (hg : o.guard = none) (hop : o.op = .index t y i) (hd : o.dst = some d) (hdN : Nat.blt d E.N = true)
    (ht : T t = some dd) (hk : dd.kind = .array N e) (he : T e = some de) (h1 : de.size = 1) (ha : de.kind.isAgg = false) (hy : evT t0 y = .v (.agg (vs.map .k))) (hi : evT t0 i = .v (.c (.k (.int kd (k : Int))))) (hv : vs[k]? = some v) (hkN : k < N)
    (cont : GO P E ops K rest ⟨up t0 d (.v (.c (.k v))), m⟩) : GO P E ops K (o :: rest) ⟨t0, m⟩ := by
  have hlt : k < vs.length := (List.getElem?_eq_some_iff.1 hv).1
  have hev : evIndex T m t (evT t0 y) (evT t0 i) = .ok (.v (.c (.k v))) m [0 ≤ (k : Int), (k : Int) < (N : Int)] := by
    rw [hy, hi]
    unfold evIndex
    simp only [ht, hk, he, h1, ha, Int.toNat_natCast, Nat.mul_one]
    rw [dropK_eq (by simp; omega)]
    have : (vs.map AC.k).drop k = .k v :: (vs.map AC.k).drop (k + 1) := by
      rw [List.drop_eq_getElem_cons (by simpa using hlt)]
      congr 1
      simp only [List.getElem_map]
      congr 1
      have := List.getElem?_eq_getElem hlt
      rw [this] at hv
      injection hv
    rw [this]
    generalize (vs.map AC.k).drop (k + 1) = r
    cases r <;> rfl
  have hstep : stepE T E.N ops t0 m o = .ok (.v (.c (.k v))) m [0 ≤ (k : Int), (k : Int) < (N : Int)] := by
    unfold stepE
    have : dstOk E.N o.dst = true := by rw [hd]; exact hdN
    rw [this, hg, hd, hop]
    exact hev
  exact GO.step (st := ⟨t0, m⟩) hT hstep ⟨by omega, by omega, trivial⟩ (by rw [hd]; exact cont)
theorem GO.emptySliceS {ops : Array Oper} {rest : List Oper} {o : Oper} {t e d : Nat} {t0 : Nat → TV} {m : Mem} {dd : TyD} (hT : Tab.fine P T) (hg : o.guard = none) (hop : o.op = .buildSlice t 0 #[]) (hd : o.dst = some d) (hdN : Nat.blt d E.N = true) (ht : T t = some dd) (hk : dd.kind = .slice e) {de : TyD} (he : T e = some de)
    (k : ∀ A, (∀ a : Addr, A = some a → a.spot = none) → GO P E ops K rest ⟨up t0 d (.v (.c (.k (.slice A 0 0)))), m⟩) : GO P E ops K (o :: rest) ⟨t0, m⟩ := by
  intro ρ a w hs
  have hkind := (hT.ok t dd ht).kind
  rw [hk] at hkind
  have hsz := (hT.ok e de he).size w
  have hrun : (execOp a.eval o).run P w = .ok (.value (.slice (some ⟨w.heap.size, 0, none⟩) 0 0)) (w.alloc (.cells #[] e)) := by
    simp [execOp, hop, Instr.buildSlice, hkind w, hsz, Instr.fill, newRow]
    rw [show (w.alloc (.cells #[] e)) = w.alloc (.cells (Array.map (fun _ => (default : Value)) (Array.range 0)) e) by rw [show (Array.map (fun _ => (default : Value)) (Array.range 0)) = #[] from by apply Array.toList_inj.1; simp]]
  unfold wpList
  rw [if_pos (by simp [Region.wanted, hg])]
  refine .inl ?_
  unfold Oper.wp
  rw [hrun]
  refine k (some ⟨w.heap.size, 0, none⟩) (fun a ha => by injection ha with ha; subst ha; rfl) ρ _ _ ?_
  rw [hd]
  exact (hs.below ((Below.refl _ _).alloc (Nat.le_refl _) _)).put (by simpa [Nat.blt_eq] using hdN) ⟨trivial, rfl⟩
/-! ### A list that grows from nothing on -/
def accV (d sz n c : Nat) : AC := match n with
  | 0 => .k (.slice none 0 0)
  | n + 1 => .slc d 0 sz (n + 1) c
theorem GO.appendAcc {ops : Array Oper} {rest : List Oper} {o : Oper} {s y : Operand} {t e size bytes d n c : Nat} {z : Value} {t0 : Nat → TV} {m : Mem} {el : Nat → List Value} {q c1 : Nat} {ty1 : TypeId} (vs : List Value) (tl : List (Nat × TV)) (ml : List (Nat × Blk)) (hp : ApT P t e size bytes z) (hg : o.guard = none) (hop : o.op = .call { callee := .builtin .append, args := #[s, y], argTypes := #[t, t] })
    (hd : o.dst = some d) (hdN : Nat.blt d E.N = true) (hdb : Nat.blt d 1000 = true) (hs : evT t0 s = .v (.c (accV d size n c))) (hx : 0 < n → m d = some (.arr e size n el ((c - n) * size)))
    (hy : evT t0 y = .v (.c (.slc q 0 size 1 c1))) (hq : m q = some (.var ty1 (vs.map .k))) (hv : vs.length = size) (h1 : ∀ u ∈ vs, u.oneCell' = true)
    (hle : St.le E (St.of tl ml) ⟨t0, m⟩) (hfr : ∀ z b, (St.of tl ml).m z = some b → m z = some b ∧ z ≠ d) (hlen : ∀ k, k < n → (el k).length = size) (b1 : n + 1 ≤ maxLen) (b2 : (n + 1) * bytes ≤ 140737488355328)
    (k : ∀ c', n + 1 ≤ c' → GO P E ops K rest ⟨up (St.of tl ml).t d (.v (.c (.slc d 0 size (n + 1) c'))), up (St.of tl ml).m d (some (.arr e size (n + 1) (elN el n vs) ((c' - (n + 1)) * size)))⟩) : GO P E ops K (o :: rest) ⟨t0, m⟩ := by
  have hfree : (St.of tl ml).m d = none := by
    cases h : (St.of tl ml).m d with
    | none => rfl
    | some b => exact absurd rfl (hfr d b h).2
  cases n with
  | succ n => exact GO.appendOwn vs tl ml hp hg hop hd hdN hdb hdb hs (hx (Nat.succ_pos n)) (Nat.le_refl _) hy hq hv h1 hle hfr hfree hlen b1 b2 k
  | zero =>
    intro ρ a w hsat
    have hs0 := hle ρ a w hsat
    have es : a.eval s = .slice none 0 0 := by have := hsat.eval s; simp only [St.ev, hs] at this; exact this.2
    have ex := hsat.eval y
    simp only [St.ev, hy] at ex
    obtain ⟨B, cc, e3, hr⟩ := (RowOf.var (P := P) (E := E) (c := c1) (n := 1) (sz := size) hq (by omega)) ρ w hsat.mem ex.1
    have hone : ∀ i, i < 1 → elN el 0 vs i = vs := fun i hi => by
      have : i = 0 := by omega
      subst this
      exact elN_eq
    have hr' : RdRow w B 1 size (elN el 0 vs) := hr.congr fun i hi => by
      rw [hone i hi]
      have : i = 0 := by omega
      subst this
      simp [← hv]
    have ex : a.eval y = .slice B 1 cc := ex.2.trans e3
    unfold wpList
    rw [if_pos (by simp [Region.wanted, hg])]
    refine .inl ?_
    unfold Oper.wp
    rcases append_new (ty := o.type) hp (A := none) (c := cc) hr' (fun i hi u hu => h1 u (by rw [hone i hi] at hu; exact hu)) (by omega) (by omega) with ⟨h0, _⟩ | ⟨h0, v', w', hrun, r1, r2⟩
    · cases h0
    · have : (execOp a.eval o).run P w = .ok (.value v') w' := by
        simp [execOp, hop, resolve, invoke, builtin, es, ex, hrun, Result.andThen]
      rw [this]
      obtain ⟨ρ', c', h2, h3, h4, h5⟩ := hs0.mem.newOwn hfree (by simpa [Nat.blt_eq] using hdb) (fun i hi => by rw [hone i hi]; exact hv) h0 r1 r2
      refine k c' h2 ρ' _ w' ?_
      rw [hd]
      refine (hs0.move h4 (fun y hy => isSome_up y hy) h3).put (by simpa [Nat.blt_eq] using hdN) ⟨?_, h5⟩
      show (up (St.of tl ml).m d _ d).isSome = true
      rw [up_same]; rfl
def accMl (d : Nat) (e : TypeId) (sz n c : Nat) (el : Nat → List Value) : List (Nat × Blk) := match n with
  | 0 => []
  | n + 1 => [(d, .arr e sz (n + 1) el ((c - (n + 1)) * sz))]
theorem rowC_acc {g : Nat} {m : Mem} {d sz n c : Nat} {e : TypeId} {el el2 : Nat → List Value} {room : Nat} (hc : n ≤ c) (hm : 0 < n → m d = some (.arr e sz n el2 room)) (he : ∀ i, i < n → el i = el2 i) : rowC g m n sz el (accV d sz n c) := by
  cases n with
  | zero => exact ⟨rfl, rfl, fun a h => by cases h⟩
  | succ n =>
    refine ⟨hc, rfl, rfl, ?_⟩
    rw [hm (Nat.succ_pos n)]
    exact ⟨rfl, by omega, fun i hi => by rw [Nat.zero_add]; exact he i hi⟩
/-! ### Another name for where a row lay -/
def aliasL (x y : Nat) : List AC → List AC → Prop
  | [], [] => True
  | a :: r, b :: s => (b = a ∨ ∃ i sz n c, a = .slc x i sz n c ∧ b = .slc y i sz n c) ∧ aliasL x y r s
  | _, _ => False
theorem aliasL_conc {x y : Nat} {ρ ρ' : Val} {m m' : Mem} (hy : ρ' y = ρ x) (hs : ∀ z, (m z).isSome = true → (m' z).isSome = true) (hm : (m' y).isSome = true) (hρ : ∀ z, (m z).isSome = true → ρ' z = ρ z) : ∀ {a b : List AC}, aliasL x y a b → (∀ c ∈ a, c.ok ρ m) → b.map (AC.conc ρ') = a.map (AC.conc ρ) ∧ ∀ c ∈ b, c.ok ρ' m'
  | [], [], _, _ => ⟨rfl, fun c h => by cases h⟩
  | [], _ :: _, h, _ => h.elim
  | _ :: _, [], h, _ => h.elim
  | a :: r, b :: s, h, ho => by
    obtain ⟨h1, h2⟩ := aliasL_conc hy hs hm hρ h.2 fun c hc => ho c (.tail _ hc)
    have oa := ho a (.head _)
    have : b.conc ρ' = a.conc ρ ∧ b.ok ρ' m' := by
      rcases h.1 with rfl | ⟨i, sz, n, c, rfl, rfl⟩
      · exact ⟨AC.conc_mono hρ oa, AC.ok_mono hs hρ oa⟩
      · exact ⟨by simp only [AC.conc, hy], hm⟩
    refine ⟨by rw [List.map_cons, List.map_cons, h1, this.1], fun c hc => ?_⟩
    cases hc with
    | head => exact this.2
    | tail _ hc => exact h2 c hc
theorem GO.alias {ops : Array Oper} {rest : List Oper} {t : Nat → TV} {m : Mem} {z : Nat} {ty : TypeId} {cells : List AC} (x y : Nat) (cells' : List AC) (hx : (m x).isSome = true) (hy : m y = none) (hyb : Nat.blt y 1000 = true) (hz : m z = some (.var ty cells)) (hc : aliasL x y cells cells')
    (k : GO P E ops K rest ⟨t, up (up m y (some (.ro 0 0 fun _ => []))) z (some (.var ty cells'))⟩) : GO P E ops K rest ⟨t, m⟩ := by
  intro ρ a w hs
  have hyb : y < 1000 := by simpa [Nat.blt_eq] using hyb
  have hzy : z ≠ y := fun e => by subst e; rw [hy] at hz; cases hz
  obtain ⟨m', hm'⟩ : ∃ m', m' = up (up m y (some (.ro 0 0 fun _ => []))) z (some (.var ty cells')) := ⟨_, rfl⟩
  obtain ⟨ρ', hρ'⟩ : ∃ ρ' : Val, ρ' = up ρ y (ρ x) := ⟨_, rfl⟩
  have hρ : ∀ q, (m q).isSome = true → ρ' q = ρ q := fun q hq => by rw [hρ']; exact up_other _ _ (fun e => by subst e; simp [hy] at hq)
  have hsome : ∀ q, (m q).isSome = true → (m' q).isSome = true := fun q hq => by rw [hm']; exact isSome_up q (isSome_up q hq)
  have e1 : ρ' y = ρ x := by rw [hρ', up_same]
  have hmy : (m' y).isSome = true := by rw [hm', up_other _ _ (Ne.symm hzy), up_same]; rfl
  have cs : ∀ q b, m' q = some b → (q = z ∧ b = .var ty cells') ∨ (q = y ∧ b = .ro 0 0 fun _ => []) ∨ (q ≠ z ∧ q ≠ y ∧ m q = some b) := by
    intro q b hq
    rw [hm'] at hq
    by_cases h1 : q = z
    · subst h1; rw [up_same] at hq; injection hq with hq; exact .inl ⟨rfl, hq.symm⟩
    · rw [up_other _ _ h1] at hq
      by_cases h2 : q = y
      · subst h2; rw [up_same] at hq; injection hq with hq; exact .inr (.inl ⟨rfl, hq.symm⟩)
      · rw [up_other _ _ h2] at hq; exact .inr (.inr ⟨h1, h2, hq⟩)
  have hkz := hs.mem.ok z _ hz
  have hzs : (m z).isSome = true := by rw [hz]; rfl
  obtain ⟨a1, a2⟩ := aliasL_conc (ρ := ρ) (ρ' := ρ') (m := m) (m' := m') e1 hsome hmy hρ hc hkz.2.2.2
  have hmem : SatM E ρ' m' w := by
    refine ⟨hs.mem.fr, fun p hp => ?_, fun q b hq => ?_, fun q r b d hq hr hb hd hne => ?_⟩
    · have := hs.mem.bo p hp
      rw [hρ', up_other _ _ (by omega)]; exact this
    · rcases cs q b hq with ⟨rfl, rfl⟩ | ⟨rfl, rfl⟩ | ⟨h1, h2, h3⟩
      · exact ⟨by rw [hρ _ hzs]; exact hkz.1, by rw [hρ _ hzs]; exact hkz.2.1, by rw [hρ _ hzs, a1]; exact hkz.2.2.1, a2⟩
      · intro h0; omega
      · have hk := hs.mem.ok q b h3
        have ey : ρ' q = ρ q := hρ q (by rw [h3]; rfl)
        cases b with
        | var ty cells =>
          have hcm : cells.map (AC.conc ρ') = cells.map (AC.conc ρ) := List.map_congr_left fun c hm => AC.conc_mono hρ (hk.2.2.2 c hm)
          exact ⟨by rw [ey]; exact hk.1, by rw [ey]; exact hk.2.1, by rw [ey, hcm]; exact hk.2.2.1, fun c hc => AC.ok_mono hsome hρ (hk.2.2.2 c hc)⟩
        | arr ty sz n el room =>
          obtain ⟨k1, k2, a, ha, hs, he⟩ := hk
          exact ⟨by rw [ey]; exact k1, by rw [ey]; exact k2, a, by rw [ey]; exact ha, hs, he⟩
        | obj Q =>
          obtain ⟨k1, k2, a, ha, hs⟩ := hk
          exact ⟨by rw [ey]; exact k1, by rw [ey]; exact k2, a, by rw [ey]; exact ha, hs⟩
        | ro sz n el =>
          intro hn
          rw [ey]
          exact hk hn
    · have live : ∀ q b, m' q = some b → b.live → ∃ b0, m q = some b0 ∧ b0.live ∧ (b.own → b0.own) ∧ ρ' q = ρ q := by
        intro q b hq hl
        rcases cs q b hq with ⟨rfl, rfl⟩ | ⟨rfl, rfl⟩ | ⟨h1, h2, h3⟩
        · exact ⟨_, hz, trivial, fun _ => trivial, hρ _ hzs⟩
        · exact absurd hl (Nat.lt_irrefl 0)
        · exact ⟨b, h3, hl, id, hρ q (by rw [h3]; rfl)⟩
      obtain ⟨b0, g1, g2, g3, g4⟩ := live q b hq (Blk.own_live hb)
      obtain ⟨d0, g5, g6, _, g7⟩ := live r d hr hd
      rw [g4, g7]
      exact hs.mem.ne q r b0 d0 g1 g5 (g3 hb) g6 hne
  have := hs.move hmem hsome hρ
  rw [hm'] at this
  exact k ρ' a w this
/-! ### The same, where nothing is known of how long the list is -/
def accB (e : TypeId) (sz n c : Nat) (el : Nat → List Value) : Blk := match n with
  | 0 => .ro sz 0 el
  | n + 1 => .arr e sz (n + 1) el ((c - (n + 1)) * sz)
theorem accB_pos {e : TypeId} {sz n c : Nat} {el : Nat → List Value} (h : 0 < n) : accB e sz n c el = .arr e sz n el ((c - n) * sz) := by
  cases n with
  | zero => omega
  | succ n => rfl
theorem GO.moveAny (hT : Tab.fine P T) {ops : Array Oper} {rest : List Oper} {o : Oper} {y : Operand} {d : Nat} {t0 : Nat → TV} {m : Mem} {a : AV} (hg : o.guard = none) (hop : o.op = .move y ∨ o.op = .assign y) (hd : o.dst = some d) (hdN : Nat.blt d E.N = true) (hy : evT t0 y = .v a)
    (k : GO P E ops K rest ⟨up t0 d (.v a), m⟩) : GO P E ops K (o :: rest) ⟨t0, m⟩ := by
  have hev : evOp T d (evT t0) m o.op = .ok (.v a) m [] := by
    rcases hop with h | h <;> (rw [h]; simp only [evOp, forceTV_eq, hy])
  have hstep : stepE T E.N ops t0 m o = .ok (.v a) m [] := by
    unfold stepE
    have : dstOk E.N o.dst = true := by rw [hd]; exact hdN
    rw [this, hg, hd]
    exact hev
  exact GO.step (st := ⟨t0, m⟩) hT hstep trivial (by rw [hd]; exact k)
theorem G.newNil {c : Code} {t0 : Nat → TV} {m : Mem} (x sz : Nat) (el : Nat → List Value) (hx : m x = none) (k : G P E K c ⟨t0, up m x (some (.ro sz 0 el))⟩) : G P E K c ⟨t0, m⟩ :=
  fun ρ a w hs => k ρ a w (hs.move (hs.mem.newNil (x := x) (sz := sz) (el := el) hx) (fun y hy => isSome_up y hy) (fun _ _ => rfl))
theorem GO.appendAccB {ops : Array Oper} {rest : List Oper} {o : Oper} {s y : Operand} {t e size bytes d n c : Nat} {z : Value} {t0 : Nat → TV} {m : Mem} {el : Nat → List Value} {q c1 : Nat} {ty1 : TypeId} (vs : List Value) (tl : List (Nat × TV)) (ml : List (Nat × Blk)) (hp : ApT P t e size bytes z) (hg : o.guard = none) (hop : o.op = .call { callee := .builtin .append, args := #[s, y], argTypes := #[t, t] })
    (hd : o.dst = some d) (hdN : Nat.blt d E.N = true) (hdb : Nat.blt d 1000 = true) (hs : evT t0 s = .v (.c (accV d size n c))) (hx : m d = some (accB e size n c el))
    (hy : evT t0 y = .v (.c (.slc q 0 size 1 c1))) (hq : m q = some (.var ty1 (vs.map .k))) (hv : vs.length = size) (h1 : ∀ u ∈ vs, u.oneCell' = true)
    (hle : St.le E (St.of tl ml) ⟨t0, m⟩) (hfr : ∀ z b, (St.of tl ml).m z = some b → m z = some b ∧ z ≠ d) (hlen : ∀ k, k < n → (el k).length = size) (b1 : n + 1 ≤ maxLen) (b2 : (n + 1) * bytes ≤ 140737488355328)
    (k : ∀ c', n + 1 ≤ c' → GO P E ops K rest ⟨up (St.of tl ml).t d (.v (.c (.slc d 0 size (n + 1) c'))), up (St.of tl ml).m d (some (.arr e size (n + 1) (elN el n vs) ((c' - (n + 1)) * size)))⟩) : GO P E ops K (o :: rest) ⟨t0, m⟩ :=
  GO.appendAcc vs tl ml hp hg hop hd hdN hdb hs (fun h0 => by rw [hx, accB_pos h0]) hy hq hv h1 hle hfr hlen b1 b2 k
end
end Go.Sx
/- Chapter 37: the search for a partner: what the closure of matched computes. -/
set_option linter.unusedVariables false
set_option linter.unusedSimpArgs false
set_option maxRecDepth 8000
set_option maxHeartbeats 1000000
namespace Go.Proofs.Ytpoalimbjeehkaa
open Go.Sx Go.RowKit Mt
def elG (l : List Eg) (i : Nat) : List Value := [I (l.getD i (0, 0)).1, I (l.getD i (0, 0)).2]
def elB (f : Nat → Bool) (i : Nat) : List Value := [.bool (f i)]
def elT (f : Nat → Nat) (i : Nat) : List Value := [I (f i)]
def Pt (g : Nat) : Value := .pointer (some ⟨g, 0, none⟩)
/-- Numbers of both sides are below 24. -/
structure Bd (s : Ms) : Prop where
  l : ∀ a, s.left a ≤ 24
  r : ∀ y, s.right y ≤ 24
theorem Bd.join {s : Ms} (h : Bd s) {a y : Nat} (ha : a < 24) (hy : y < 24) : Bd (s.join a y) :=
  ⟨fun i => by simp only [Ms.join, fup]; split; omega; exact h.l i, fun i => by simp only [Ms.join, fup]; split; omega; exact h.r i⟩
theorem find_bd {L : List Eg} (hL : ∀ e ∈ L, e.1 < 24 ∧ e.2 < 24) : ∀ (f a : Nat) (s : Ms), a < 24 → Bd s → Bd (find L f a s).2 := by
  have key : ∀ {F : Nat → Ms → Bool × Ms}, (∀ a s, a < 24 → Bd s → Bd (F a s).2) → ∀ {a : Nat} (es : List Eg) (s : Ms), (∀ e ∈ es, e ∈ L) → a < 24 → Bd s → Bd (tryE F a es s).2 := by
    intro F hF a es
    induction es with
    | nil => intro s _ _ h; exact h
    | cons e es ih =>
      obtain ⟨x, y⟩ := e
      intro s hes ha h
      have hes' : ∀ e ∈ es, e ∈ L := fun e he => hes e (List.mem_cons_of_mem _ he)
      have hy := (hL _ (hes _ List.mem_cons_self)).2
      have hsee : Bd (s.see y) := ⟨h.l, h.r⟩
      unfold tryE
      split
      · exact ih s hes' ha h
      split
      · exact hsee.join ha hy
      have hr := h.r y
      split
      · rename_i s2 h2
        have := hF (s.right y - 1) (s.see y) (by omega) hsee
        rw [h2] at this
        exact Bd.join this ha hy
      · rename_i s2 h2
        have := hF (s.right y - 1) (s.see y) (by omega) hsee
        rw [h2] at this
        exact ih s2 hes' ha this
  intro f
  induction f with
  | zero => intro a s _ h; exact h
  | succ f ih => intro a s ha h; exact key ih L s (fun e he => he) ha h
/-- What the closure has captured. -/
structure Cl (L : List Eg) (A : Option Addr) (c gl gs gr gf ge : Nat) (s : Ms) (w : World) : Prop where
  row : RdRow w A L.length 2 (elG L)
  fl : 0 < L.length → ∀ x, A = some x → x.block ≠ gl
  fs : 0 < L.length → ∀ x, A = some x → x.block ≠ gs
  fr : 0 < L.length → ∀ x, A = some x → x.block ≠ gr
  ff : 0 < L.length → ∀ x, A = some x → x.block ≠ gf
  fe : 0 < L.length → ∀ x, A = some x → x.block ≠ ge
  ne : (gl ≠ gs ∧ gl ≠ gr ∧ gl ≠ gf ∧ gl ≠ ge) ∧ (gs ≠ gr ∧ gs ≠ gf ∧ gs ≠ ge) ∧ (gr ≠ gf ∧ gr ≠ ge) ∧ gf ≠ ge
  hl : w.heap[gl]? = some (.cells #[.slice A L.length c] 45 (0, 0))
  hs : OwnAt w gs 84 24 1 (elB s.seen) 0
  hr : OwnAt w gr 81 24 1 (elT s.right) 0
  hf : w.heap[gf]? = some (.cells #[.func (.func 69) #[] #[Pt gl, Pt gs, Pt gr, Pt gf, Pt ge]] 55 (0, 0))
  he : OwnAt w ge 81 24 1 (elT s.left) 0
def CB (L : List Eg) (A : Option Addr) (c gl gs gr gf ge : Nat) (s : Ms) : List Bw :=
  [⟨1900, gl, .var 45 [.inp 1000 A L.length c]⟩, ⟨1901, gs, .arr 84 1 24 (elB s.seen) 0⟩, ⟨1902, gr, .arr 81 1 24 (elT s.right) 0⟩,
    ⟨1903, gf, .var 55 [.fn 69 [.own 1900 0, .own 1901 0, .own 1902 0, .own 1903 0, .own 1904 0]]⟩, ⟨1904, ge, .arr 81 1 24 (elT s.left) 0⟩]
theorem up_el (f : Nat → Nat) (a v i : Nat) {x : Int} (hx : x = (v : Int)) : (bif Nat.beq i a then [Value.int .i64 x] else elT f i) = elT (fup f a v) i := by
  subst hx
  simp only [elT, fup]
  by_cases e : i = a
  · subst e; simp
  · simp [nbeq e, e]
theorem find_any (L : List Eg) (A : Option Addr) (c : Nat) (hL : ∀ e ∈ L, e.1 < 24 ∧ e.2 < 24) (hlen : L.length ≤ 4611686018427387904) : ∀ (f a : Nat) (s : Ms) (gl gs gr gf ge : Nat) (w : World), a < 24 → Bd s → uns 24 s.seen < f → Cl L A c gl gs gr gf ge s w →
    Calls Try.prog 69 #[I a, Pt gl, Pt gs, Pt gr, Pt gf, Pt ge] w fun e w' => e = .returned (.bool (find L f a s).1) ∧ Fr w [gs, gr, ge] w' ∧ OwnAt w' gs 84 24 1 (elB (find L f a s).2.seen) 0 ∧ OwnAt w' gr 81 24 1 (elT (find L f a s).2.right) 0 ∧ OwnAt w' ge 81 24 1 (elT (find L f a s).2.left) 0 := by
  intro f
  induction f with
  | zero => intro a s gl gs gr gf ge w _ _ h; omega
  | succ f ih =>
  intro a s gl gs gr gf ge w ha hbd hu hc
  obtain ⟨⟨n1, n2, n3, n4⟩, ⟨n5, n6, n7⟩, ⟨n8, n9⟩, n10⟩ := hc.ne
  refine (enterBw (v := .bool (find L (f + 1) a s).1) tfine (CB L A c gl gs gr gf ge s) (CB L A c gl gs gr gf ge (find L (f + 1) a s).2) Try.func69 rfl 54 Try.ntmps69 [.c (.k (I a)), .c (.ptr 1900 0 0 0), .c (.ptr 1901 0 1 0), .c (.ptr 1902 0 1 0), .c (.ptr 1903 0 0 0), .c (.ptr 1904 0 1 0)] [⟨1000, A, 2, L.length, elG L⟩]
    ⟨hc.row, trivial⟩ ⟨(show (1000 : Nat) < 1900 by decide), trivial⟩ ?_ ?_ rfl rfl ?_ ?_ ?_ ?_).mono ?_
  · exact ⟨⟨⟨nx rfl, n1⟩, ⟨nx rfl, n2⟩, ⟨nx rfl, n3⟩, ⟨nx rfl, n4⟩, trivial⟩, ⟨⟨nx rfl, n5⟩, ⟨nx rfl, n6⟩, ⟨nx rfl, n7⟩, trivial⟩, ⟨⟨nx rfl, n8⟩, ⟨nx rfl, n9⟩, trivial⟩, ⟨⟨nx rfl, n10⟩, trivial⟩, trivial, trivial⟩
  · exact ⟨⟨Nat.le_of_ble_eq_true rfl, ⟨hc.fl, trivial⟩, ⟨.inl ⟨rfl, rfl, rfl⟩, trivial⟩, hc.hl⟩, ⟨Nat.le_of_ble_eq_true rfl, ⟨hc.fs, trivial⟩, trivial, hc.hs⟩, ⟨Nat.le_of_ble_eq_true rfl, ⟨hc.fr, trivial⟩, trivial, hc.hr⟩,
      ⟨Nat.le_of_ble_eq_true rfl, ⟨hc.ff, trivial⟩, ⟨⟨.inl rfl, .inr (.inl rfl), .inr (.inr (.inl rfl)), .inr (.inr (.inr (.inl rfl))), .inr (.inr (.inr (.inr (.inl rfl)))), trivial⟩, trivial⟩, hc.hf⟩, ⟨Nat.le_of_ble_eq_true rfl, ⟨hc.fe, trivial⟩, trivial, hc.he⟩, trivial⟩
  · exact ⟨trivial, .inl rfl, .inr (.inl rfl), .inr (.inr (.inl rfl)), .inr (.inr (.inr (.inl rfl))), .inr (.inr (.inr (.inr (.inl rfl)))), trivial⟩
  · intro b hb
    simp only [CB, List.mem_cons, List.not_mem_nil, or_false] at hb
    rcases hb with rfl | rfl | rfl | rfl | rfl
    · exact ⟨_, List.mem_cons_self, rfl, rfl⟩
    · exact ⟨_, List.mem_cons_of_mem _ List.mem_cons_self, rfl, rfl⟩
    · exact ⟨_, List.mem_cons_of_mem _ (List.mem_cons_of_mem _ List.mem_cons_self), rfl, rfl⟩
    · exact ⟨_, List.mem_cons_of_mem _ (List.mem_cons_of_mem _ (List.mem_cons_of_mem _ List.mem_cons_self)), rfl, rfl⟩
    · exact ⟨_, List.mem_cons_of_mem _ (List.mem_cons_of_mem _ (List.mem_cons_of_mem _ (List.mem_cons_of_mem _ List.mem_cons_self))), rfl, rfl⟩
  · exact ⟨⟨.inl ⟨rfl, rfl, rfl⟩, trivial⟩, trivial, trivial, ⟨⟨.inl rfl, .inr (.inl rfl), .inr (.inr (.inl rfl)), .inr (.inr (.inr (.inl rfl))), .inr (.inr (.inr (.inr (.inl rfl)))), trivial⟩, trivial⟩, trivial, trivial⟩
  · generalize hbb : bwB (CB L A c gl gs gr gf ge s) = bor
    refine G.seqR tfine rfl trivial ?_
    refine G.seq (G.seqR tfine rfl trivial ?_)
    refine G.block (G.loop (fun z : Nat × Ms => St.of [(0, .v (.c (.k (I a)))), (1, .v (.c (.ptr 1900 0 0 0))), (2, .v (.c (.ptr 1901 0 1 0))), (3, .v (.c (.ptr 1902 0 1 0))), (4, .v (.c (.ptr 1903 0 0 0))), (5, .v (.c (.ptr 1904 0 1 0))), (10, .v (.c (.inp 1000 A L.length c))), (11, .v (.c (.k (I L.length)))), (12, .v (.c (.k (I z.1))))]
        [(1900, .var 45 [.inp 1000 A L.length c]), (1901, .arr 84 1 24 (elB z.2.seen) 0), (1902, .arr 81 1 24 (elT z.2.right) 0), (1903, .var 55 [.fn 69 [.own 1900 0, .own 1901 0, .own 1902 0, .own 1903 0, .own 1904 0]]), (1904, .arr 81 1 24 (elT z.2.left) 0), (1000, .ro 2 L.length (elG L))])
      (fun z => z.1 ≤ L.length ∧ tryE (find L f) a L s = tryE (find L f) a (L.drop z.1) z.2 ∧ uns 24 z.2.seen ≤ uns 24 s.seen ∧ Bd z.2) (fun z => L.length - z.1) (0, s) ⟨Nat.zero_le _, rfl, Nat.le_refl _, hbd⟩
      (St.le_of rfl ⟨⟨_, rfl, Blk.le_refl _⟩, ⟨_, rfl, Blk.le_refl _⟩, ⟨_, rfl, Blk.le_refl _⟩, ⟨_, rfl, Blk.le_refl _⟩, ⟨_, rfl, Blk.le_refl _⟩, ⟨_, rfl, Blk.le_refl _⟩, trivial⟩ ⟨rfl, rfl, rfl, rfl, rfl, rfl, rfl, rfl, rfl, trivial⟩) ?_)
    rintro ⟨k, sk⟩ ⟨hk, he, huk, hbk⟩
    dsimp only at hk he huk hbk ⊢
    refine G.seqR tfine rfl trivial ?_
    refine G.seq (G.cond (b := decide ((k : Int) < (L.length : Int))) rfl (fun h => ?_) (fun h => ?_))
    rotate_left
    · have h := of_decide_eq_false h
      have : k = L.length := by omega
      subst this
      refine G.exit ?_
      refine G.seqR tfine rfl trivial ?_
      rw [List.drop_length] at he
      refine G.ret (endBw.ret rfl ?_ ?_)
      · rw [find, he]
        rfl
      · rw [find, he]
        exact ⟨rfl, ⟨_, _, rfl, fun i hi => rfl⟩, ⟨_, _, rfl, fun i hi => rfl⟩, rfl, ⟨_, _, rfl, fun i hi => rfl⟩, trivial⟩
    have h := of_decide_eq_true h
    have hlt : k < L.length := by omega
    obtain ⟨x, hx⟩ : ∃ x, x = (L.getD k (0, 0)).1 := ⟨_, rfl⟩
    obtain ⟨y, hy⟩ : ∃ y, y = (L.getD k (0, 0)).2 := ⟨_, rfl⟩
    have hxy : (x, y) = L.getD k (0, 0) := by rw [hx, hy]
    have hmem : (x, y) ∈ L := by rw [hxy, List.getD_eq_getElem?_getD, List.getElem?_eq_getElem hlt]; exact List.getElem_mem hlt
    have hd : L.drop k = (x, y) :: L.drop (k + 1) := by
      rw [hxy, List.getD_eq_getElem?_getD, List.getElem?_eq_getElem hlt, Option.getD_some, List.drop_eq_getElem_cons hlt]
    have hx24 : x < 24 := (hL _ hmem).1
    have hy24 : y < 24 := (hL _ hmem).2
    rw [hd, tryE] at he
    refine G.skip ?_
    refine G.seq (G.block ?_)
    refine G.seqR tfine rfl ⟨by simpa using hlt, by omega, by omega, trivial⟩ ?_
    rw [Int.toNat_natCast, ← hx, ← hy]
    refine G.seq (G.seqR tfine rfl ?_ ?_)
    · simp [AllP, condB]
      omega
    rw [Int.toNat_natCast]
    refine G.cond (b := ((x : Int) != (a : Int)) || sk.seen y) rfl (fun h2 => ?_) (fun h2 => ?_)
    · refine G.exit ?_
      refine G.reg tfine rfl trivial ?_
      rw [IntWalk.i64_in _ (by omega)]
      have h2' : x ≠ a ∨ sk.seen y = true := by
        simp only [Bool.or_eq_true, bne_iff_ne, ne_eq] at h2
        rcases h2 with h2 | h2
        · exact .inl (by omega)
        · exact .inr h2
      rw [if_pos h2'] at he
      exact ⟨(k + 1, sk), ⟨by simp only; omega, he, huk, hbk⟩, (by show L.length - (k + 1) < L.length - k; omega), St.le_of rfl ⟨⟨_, rfl, Blk.le_refl _⟩, ⟨_, rfl, Blk.le_refl _⟩, ⟨_, rfl, Blk.le_refl _⟩, ⟨_, rfl, Blk.le_refl _⟩, ⟨_, rfl, Blk.le_refl _⟩, ⟨_, rfl, Blk.le_refl _⟩, trivial⟩ ⟨rfl, rfl, rfl, rfl, rfl, rfl, rfl, rfl, by simp [up, I], trivial⟩⟩
    have h2' : ¬ (x ≠ a ∨ sk.seen y = true) := by
      simp only [Bool.or_eq_false_iff, bne_eq_false_iff_eq] at h2
      simp [h2.2]
      omega
    rw [if_neg h2'] at he
    have hxa : x = a := by omega
    have hsy : sk.seen y = false := by
      cases e : sk.seen y with
      | false => rfl
      | true => exact absurd (.inr e) h2'
    have hus := uns_see hy24 hsy
    refine G.skip ?_
    refine G.seqR tfine rfl ?_ ?_
    · simp [AllP]
      omega
    rw [Int.toNat_natCast]
    have hsee : ∀ i, i < 24 → (bif Nat.beq i y then [Value.bool true] else elB sk.seen i) = elB (sk.see y).seen i := by
      intro i _
      simp only [elB, Ms.see, fup]
      by_cases e : i = y
      · subst e; simp
      · simp [nbeq e, e]
    by_cases hr0 : sk.right y = 0
    · rw [if_pos hr0] at he
      refine G.seqDraw hmix [0, 1, 3, 7, 15, 31, 63, 63, 191, 447, 959, 1983, 4095, 8191] [] rfl rfl rfl ?_
      refine GD.more tfine 0 rfl rfl ?_ ?_
      · simp [AllP, condB]
        omega
      rw [Int.toNat_natCast]
      refine GD.shut (cb := condB false (decide ((sk.right y : Int) = 0))) (.c (.k (.bool false))) 12 rfl (by simp [condB, hr0]) rfl rfl rfl ?_
      refine GD.fin tfine 13 rfl rfl ?_ ?_
      · simp [AllP, condB]
      refine G.cond (b := decide ((sk.right y : Int) = 0) || false) rfl (fun h3 => ?_) (fun h3 => ?_)
      rotate_left
      · simp [hr0] at h3
      refine G.seqD tfine hmix [0, 0, 2, 0, 8, 24, 0, 64, 57, 313, 1023, 2047] [(9, 1904), (11, 1902)] rfl rfl rfl rfl ?_ ?_
      · simp [AllP]
        omega
      rw [Int.toNat_natCast, Int.toNat_natCast, IntWalk.i64_in ((y : Int) + 1) (by omega), IntWalk.i64_in ((a : Int) + 1) (by omega)]
      refine G.seqR tfine rfl trivial ?_
      refine G.ret (endBw.ret rfl ?_ ?_)
      · rw [find, he]
      · rw [find, he]
        exact ⟨rfl, ⟨_, _, rfl, hsee⟩, ⟨_, _, rfl, fun i hi => up_el _ _ _ _ (by omega)⟩, rfl, ⟨_, _, rfl, fun i hi => up_el _ _ _ _ (by omega)⟩, trivial⟩
    rw [if_neg hr0] at he
    obtain ⟨⟨r, s2⟩, hfr⟩ : ∃ q, q = find L f (sk.right y - 1) (sk.see y) := ⟨_, rfl⟩
    rw [← hfr] at he
    have hr24 := hbk.r y
    have hbs : Bd (sk.see y) := ⟨hbk.l, hbk.r⟩
    have hb2 := find_bd hL f (sk.right y - 1) (sk.see y) (by omega) hbs
    rw [← hfr] at hb2
    have hu2 : uns 24 s2.seen ≤ uns 24 s.seen := by
      have h1 : uns 24 s2.seen ≤ uns 24 (sk.see y).seen := uns_mono fun z hz => by
        have := find_seen L f (sk.right y - 1) (sk.see y) z hz
        rwa [← hfr] at this
      have h2 : uns 24 (sk.see y).seen < uns 24 sk.seen := hus
      omega
    refine G.seqDraw hmix [0, 1, 3, 7, 15, 31, 63, 63, 191, 447, 959, 1983, 4095, 8191] [(12, 1901), (12, 1902), (12, 1904)] rfl rfl rfl ?_
    refine GD.more tfine 0 rfl rfl ?_ ?_
    · simp [AllP, condB]
      omega
    rw [Int.toNat_natCast, IntWalk.i64_in _ (by omega)]
    refine GD.callBwT (cb := condB false (decide ((sk.right y : Int) = 0))) (v := .bool r) [⟨1901, .arr 84 1 24 (elB s2.seen) 0⟩, ⟨1902, .arr 81 1 24 (elT s2.right) 0⟩, ⟨1904, .arr 81 1 24 (elT s2.left) 0⟩] 12 rfl (by simp [condB, hr0]) rfl rfl rfl (by first | exact trivial | exact ⟨id, trivial⟩ | exact ⟨id, id, trivial⟩ | exact ⟨id, id, id, trivial⟩) rfl rfl rfl (fun args w => Try.call69 args w) ⟨⟨_, rfl, trivial⟩, ⟨_, rfl, trivial⟩, ⟨_, rfl, trivial⟩, trivial⟩ trivial rfl (fun m hle ρ w2 hs hok hok2 => ?_) ?_
    · have hb : ∀ x g, (x, g) ∈ bwB (CB L A c gl gs gr gf ge s) → ρ x = (g, 0) := fun x g h => (hs.bo (x, g) (by rw [← hbb]; exact h)).1
      have b0 := hb 1900 gl (by simp [bwB, CB])
      have b1 := hb 1901 gs (by simp [bwB, CB])
      have b2 := hb 1902 gr (by simp [bwB, CB])
      have b3 := hb 1903 gf (by simp [bwB, CB])
      have b4 := hb 1904 ge (by simp [bwB, CB])
      have k0 := hs.ok 1900 _ (hle.at rfl)
      have k1 := (hs.ok 1901 _ (hle.at rfl)).2.2
      have k2 := (hs.ok 1902 _ (hle.at rfl)).2.2
      have k3 := (hs.ok 1903 _ (hle.at rfl)).2.2.1
      have k4 := (hs.ok 1904 _ (hle.at rfl)).2.2
      have hin : AC.ok ρ m (.inp 1000 A L.length c) := k0.2.2.2 _ List.mem_cons_self
      have far : ∀ x b, m x = some b → b.own → x ≠ 1000 → 0 < L.length → ∀ q, A = some q → q.block ≠ (ρ x).1 := fun x b hx ho hne => hs.apart hx ho (hle.at rfl) hin (Nat.le_refl _) hne
      have f0 := far 1900 _ (hle.at rfl) trivial (nx rfl)
      have f1 := far 1901 _ (hle.at rfl) trivial (nx rfl)
      have f2 := far 1902 _ (hle.at rfl) trivial (nx rfl)
      have f3 := far 1903 _ (hle.at rfl) trivial (nx rfl)
      have f4 := far 1904 _ (hle.at rfl) trivial (nx rfl)
      have k0 := k0.2.2.1
      rw [b0] at k0 f0
      rw [b1] at k1 f1
      rw [b2] at k2 f2
      rw [b3] at k3 f3
      rw [b4] at k4 f4
      have hcl : Cl L A c gl gs gr gf ge (sk.see y) w2 := ⟨hs.rd (cap := c) (hle.at rfl) hin (Nat.le_refl _), f0, f1, f2, f3, f4, hc.ne, k0, OwnAt.congr k1 hsee, k2, by rw [k3]; simp [AC.conc, Cap.conc, b0, b1, b2, b3, b4, Pt], k4⟩
      have := ih (sk.right y - 1) (sk.see y) gl gs gr gf ge w2 (by omega) hbs (by show uns 24 (fup sk.seen y true) < f; omega) hcl
      rw [← hfr] at this
      have eargs : (([AV.c (AC.k (I ((sk.right y : Int) - 1)))].map (AV.conc ρ)) ++ ([Cap.own 1900 0, Cap.own 1901 0, Cap.own 1902 0, Cap.own 1903 0, Cap.own 1904 0].map (Cap.conc ρ))).toArray = #[I ((sk.right y - 1 : Nat) : Int), Pt gl, Pt gs, Pt gr, Pt gf, Pt ge] := by
        have : ((sk.right y - 1 : Nat) : Int) = (sk.right y : Int) - 1 := by omega
        rw [this]
        simp [AV.conc, AC.conc, Cap.conc, b0, b1, b2, b3, b4, Pt]
      rw [← eargs] at this
      refine this.mono ?_
      rintro e w' ⟨rfl, hf, o1, o2, o3⟩
      refine ⟨rfl, ?_, ?_, ?_, ?_, trivial⟩
      · simp only [List.map_cons, List.map_nil, b1, b2, b4]; exact hf
      · show OwnAt w' (ρ 1901).1 _ _ _ _ _
        rw [b1]; exact o1
      · show OwnAt w' (ρ 1902).1 _ _ _ _ _
        rw [b2]; exact o2
      · show OwnAt w' (ρ 1904).1 _ _ _ _ _
        rw [b4]; exact o3
    refine GD.fin tfine 13 rfl rfl ?_ ?_
    · simp [AllP, condB]
    refine G.cond (b := decide ((sk.right y : Int) = 0) || r) rfl (fun h3 => ?_) (fun h3 => ?_)
    · have hrt : r = true := by simpa [hr0] using h3
      subst hrt
      refine G.seqD tfine hmix [0, 0, 2, 0, 8, 24, 0, 64, 57, 313, 1023, 2047] [(9, 1904), (11, 1902)] rfl rfl rfl rfl ?_ ?_
      · simp [AllP]
        omega
      rw [Int.toNat_natCast, Int.toNat_natCast, IntWalk.i64_in ((y : Int) + 1) (by omega), IntWalk.i64_in ((a : Int) + 1) (by omega)]
      refine G.seqR tfine rfl trivial ?_
      refine G.ret (endBw.ret rfl ?_ ?_)
      · rw [find, he]
      · rw [find, he]
        exact ⟨rfl, ⟨_, _, rfl, fun i hi => rfl⟩, ⟨_, _, rfl, fun i hi => up_el _ _ _ _ (by omega)⟩, rfl, ⟨_, _, rfl, fun i hi => up_el _ _ _ _ (by omega)⟩, trivial⟩
    · have hrt : r = false := by
        cases r with
        | false => rfl
        | true => simp at h3
      subst hrt
      refine G.skip ?_
      refine G.reg tfine rfl trivial ?_
      rw [IntWalk.i64_in ((k : Int) + 1) (by omega)]
      exact ⟨(k + 1, s2), ⟨by simp only; omega, he, hu2, hb2⟩, (by show L.length - (k + 1) < L.length - k; omega), St.le_of rfl ⟨⟨_, rfl, Blk.le_refl _⟩, ⟨_, rfl, Blk.le_refl _⟩, ⟨_, rfl, Blk.le_refl _⟩, ⟨_, rfl, Blk.le_refl _⟩, ⟨_, rfl, Blk.le_refl _⟩, ⟨_, rfl, Blk.le_refl _⟩, trivial⟩ ⟨rfl, rfl, rfl, rfl, rfl, rfl, rfl, rfl, by simp [up, I], trivial⟩⟩
  · rintro e w' ⟨rfl, hf, h1, h2, h3, h4, h5, _⟩
    refine ⟨rfl, hf.drop fun g hg => ?_, h2, h3, h5⟩
    simp only [CB, List.map_cons, List.map_nil, List.mem_cons, List.not_mem_nil, or_false] at hg
    rcases hg with rfl | rfl | rfl | rfl | rfl
    · exact .inr (h1.trans hc.hl.symm)
    · exact .inl (by simp)
    · exact .inl (by simp)
    · exact .inr (h4.trans hc.hf.symm)
    · exact .inl (by simp)
end Go.Proofs.Ytpoalimbjeehkaa
/- Chapter 37: the partners of both sides in a greatest matching: what matched computes. -/
set_option linter.unusedVariables false
set_option linter.unusedSimpArgs false
set_option maxRecDepth 8000
set_option maxHeartbeats 1000000
namespace Go.Proofs.Ytpoalimbjeehkaa
open Go.Sx Go.RowKit Mt
def a24 (f : Nat → Value) : List Value := [f 0, f 1, f 2, f 3, f 4, f 5, f 6, f 7, f 8, f 9, f 10, f 11, f 12, f 13, f 14, f 15, f 16, f 17, f 18, f 19, f 20, f 21, f 22, f 23]
theorem a24_get (f : Nat → Value) {i : Nat} (h : i < 24) : (a24 f)[i]? = some (f i) := by
  have e : a24 f = (List.range 24).map f := rfl
  rw [e, List.getElem?_map, List.getElem?_range h]
  rfl
theorem a24_el (f : Nat → Value) {i : Nat} (h : i < 24) : ((a24 f).drop (i * 1)).take 1 = [f i] := by
  have e : a24 f = (List.range 24).map f := rfl
  have hl : i < (a24 f).length := h
  rw [Nat.mul_one, List.drop_eq_getElem_cons hl]
  have := a24_get f h
  rw [List.getElem?_eq_getElem hl] at this
  injection this with this
  simp [this]
/-- The partners, as arrays. -/
def arrL (f : Nat → Nat) : Value := .agg (a24 fun i => I (f i)).toArray
def arrB (f : Nat → Bool) : Value := .agg (a24 fun i => .bool (f i)).toArray
theorem matched_bd {L : List Eg} (hL : ∀ e ∈ L, e.1 < 24 ∧ e.2 < 24) : ∀ n, n ≤ 24 → Bd (matched n L) := by
  intro n
  induction n with
  | zero => intro _; exact ⟨fun _ => Nat.zero_le _, fun _ => Nat.zero_le _⟩
  | succ n ih =>
    intro hn
    have : matched (n + 1) L = stage L (matched n L) n := by
      unfold matched
      rw [List.range_succ, List.foldl_append]
      rfl
    rw [this]
    exact find_bd hL 25 n _ (by omega) ⟨(ih (by omega)).l, (ih (by omega)).r⟩
theorem matched_any (L : List Eg) (A : Option Addr) (c n : Nat) (hL : ∀ e ∈ L, e.1 < 24 ∧ e.2 < 24) (hlen : L.length ≤ 4611686018427387904) (hn : n ≤ 24) (w : World) (hl : RdRow w A L.length 2 (elG L)) :
    Calls Try.prog 60 #[I n, .slice A L.length c] w fun e w' => e = .returned (.tuple #[arrL (matched n L).left, arrL (matched n L).right]) ∧ Below w.heap.size w w' := by
  refine enterPlain tfine Try.func60 rfl 23 Try.ntmps60 [.c (.k (I n)), .c (.inp 1000 A L.length c)] [⟨1000, A, 2, L.length, elG L⟩] rfl rfl ⟨hl, trivial⟩ ⟨trivial, .inl ⟨rfl, rfl, rfl⟩, trivial⟩ ?_
  refine G.seqR tfine rfl trivial ?_
  refine G.seqR tfine rfl trivial ?_
  refine G.seqR tfine rfl trivial ?_
  refine G.seqR tfine rfl trivial ?_
  refine G.seqR tfine rfl trivial ?_
  refine G.seq (G.seqR tfine rfl trivial ?_)
  refine G.block (G.loop (fun z : Nat => St.of [(4, .v (.c (.ptr 4 0 1 0))), (5, .v (.c (.ptr 5 0 1 0))), (6, .v (.c (.ptr 6 0 1 0))), (7, .v (.c (.ptr 7 0 1 0))), (8, .v (.c (.ptr 8 0 1 0))), (9, .v (.c (.ptr 9 0 0 0))), (12, .v (.c (.k (I n)))), (13, .v (.c (.k (I z))))]
      [(3, .var 45 [.inp 1000 A L.length c]), (4, .arr 81 1 24 (elT fun _ => 0) 0), (5, .arr 81 1 24 (elT fun _ => 0) 0), (6, .arr 81 1 24 (elT (matched z L).left) 0), (7, .arr 81 1 24 (elT (matched z L).right) 0), (8, .arr 84 1 24 (elB (matched z L).seen) 0),
        (9, .var 55 [.fn 69 [.own 3 0, .own 8 0, .own 7 0, .own 9 0, .own 6 0]]), (1000, .ro 2 L.length (elG L))])
    (fun z => z ≤ n) (fun z => n - z) 0 (Nat.zero_le _)
    (St.le_of rfl ⟨⟨_, rfl, Blk.le_refl _⟩, ⟨_, rfl, rfl, rfl, Nat.le_refl _, fun i hi => rfl, Nat.le_refl _⟩, ⟨_, rfl, rfl, rfl, Nat.le_refl _, fun i hi => rfl, Nat.le_refl _⟩, ⟨_, rfl, rfl, rfl, Nat.le_refl _, fun i hi => rfl, Nat.le_refl _⟩, ⟨_, rfl, rfl, rfl, Nat.le_refl _, fun i hi => rfl, Nat.le_refl _⟩, ⟨_, rfl, rfl, rfl, Nat.le_refl _, fun i hi => rfl, Nat.le_refl _⟩, ⟨_, rfl, Blk.le_refl _⟩, ⟨_, rfl, Blk.le_refl _⟩, trivial⟩ ⟨rfl, rfl, rfl, rfl, rfl, rfl, rfl, rfl, trivial⟩) ?_)
  intro k hk
  refine G.seqR tfine rfl trivial ?_
  refine G.seq (G.cond (b := decide ((k : Int) < (n : Int))) rfl (fun h => ?_) (fun h => ?_))
  rotate_left
  · have h := of_decide_eq_false h
    have : k = n := by omega
    subst this
    refine G.exit ?_
    refine G.seqD tfine hmix [0, 0, 1, 7] [(2, 4), (3, 5)] rfl rfl rfl rfl trivial ?_
    exact G.ret (endK.ret rfl rfl)
  have h := of_decide_eq_true h
  have hlt : k < n := by omega
  have hbk := matched_bd hL k (by omega)
  obtain ⟨s0, hs0⟩ : ∃ s0 : Ms, s0 = ⟨(matched k L).left, (matched k L).right, fun _ => false⟩ := ⟨_, rfl⟩
  have hnext : matched (k + 1) L = (find L 25 k s0).2 := by
    have : matched (k + 1) L = stage L (matched k L) k := by
      unfold matched
      rw [List.range_succ, List.foldl_append]
      rfl
    rw [this, hs0]; rfl
  refine G.skip ?_
  refine G.seq (G.block ?_)
  refine G.seqR tfine rfl trivial ?_
  refine G.seqR tfine rfl trivial ?_
  refine G.regC tfine rfl trivial ?_
  refine GO.callBw (v := .bool (find L 25 k s0).1) [⟨8, .arr 84 1 24 (elB (find L 25 k s0).2.seen) 0⟩, ⟨7, .arr 81 1 24 (elT (find L 25 k s0).2.right) 0⟩, ⟨6, .arr 81 1 24 (elT (find L 25 k s0).2.left) 0⟩] rfl rfl rfl rfl (fun args w => Try.call69 args w) ⟨⟨_, rfl, trivial⟩, ⟨_, rfl, trivial⟩, ⟨_, rfl, trivial⟩, trivial⟩ trivial (fun ρ w2 hs hok hok2 => ?_) ?_
  · have p3 := (hs.ok 3 _ rfl).1
    have k0 := hs.ok 3 _ rfl
    have k1 := hs.ok 8 _ rfl
    have k2 := hs.ok 7 _ rfl
    have k3 := hs.ok 9 _ rfl
    have k4 := hs.ok 6 _ rfl
    have hin := k0.2.2.2 _ List.mem_cons_self
    have far := fun x b hx ho hne => hs.apart (x := x) (b := b) hx ho (q := 1000) rfl hin (Nat.le_refl _) hne
    have b0 := k0.1
    have b1 := k1.1
    have b2 := k2.1
    have b3 := k3.1
    have b4 := k4.1
    have hcl : Cl L A c (ρ 3).1 (ρ 8).1 (ρ 7).1 (ρ 9).1 (ρ 6).1 s0 w2 := ⟨hs.rd (cap := c) rfl hin (Nat.le_refl _), far 3 _ rfl trivial (nx rfl), far 8 _ rfl trivial (nx rfl), far 7 _ rfl trivial (nx rfl), far 9 _ rfl trivial (nx rfl), far 6 _ rfl trivial (nx rfl),
      ⟨⟨hs.ne 3 8 _ _ rfl rfl trivial trivial (nx rfl), hs.ne 3 7 _ _ rfl rfl trivial trivial (nx rfl), hs.ne 3 9 _ _ rfl rfl trivial trivial (nx rfl), hs.ne 3 6 _ _ rfl rfl trivial trivial (nx rfl)⟩, ⟨hs.ne 8 7 _ _ rfl rfl trivial trivial (nx rfl), hs.ne 8 9 _ _ rfl rfl trivial trivial (nx rfl), hs.ne 8 6 _ _ rfl rfl trivial trivial (nx rfl)⟩, ⟨hs.ne 7 9 _ _ rfl rfl trivial trivial (nx rfl), hs.ne 7 6 _ _ rfl rfl trivial trivial (nx rfl)⟩, hs.ne 9 6 _ _ rfl rfl trivial trivial (nx rfl)⟩,
      k0.2.2.1, OwnAt.congr k1.2.2 (fun i hi => by rw [hs0]; exact a24_el (fun _ => .bool false) hi), by rw [hs0]; exact k2.2.2, by rw [k3.2.2.1]; simp [AC.conc, Cap.conc, b0, b1, b2, b3, b4, Pt], by rw [hs0]; exact k4.2.2⟩
    have := find_any L A c hL hlen 25 k s0 _ _ _ _ _ w2 (by omega) (by rw [hs0]; exact ⟨hbk.l, hbk.r⟩) (by have := uns_le 24 s0.seen; omega) hcl
    have eargs : (([AV.c (AC.k (I k))].map (AV.conc ρ)) ++ ([Cap.own 3 0, Cap.own 8 0, Cap.own 7 0, Cap.own 9 0, Cap.own 6 0].map (Cap.conc ρ))).toArray = #[I k, Pt (ρ 3).1, Pt (ρ 8).1, Pt (ρ 7).1, Pt (ρ 9).1, Pt (ρ 6).1] := by
      simp [AV.conc, AC.conc, Cap.conc, b0, b1, b2, b3, b4, Pt]
    rw [← eargs] at this
    refine this.mono ?_
    rintro e w' ⟨rfl, hf, o1, o2, o3⟩
    exact ⟨rfl, hf, o1, o2, o3, trivial⟩
  refine GO.fin tfine rfl trivial ?_
  refine G.reg tfine rfl trivial ?_
  rw [IntWalk.i64_in _ (by omega)]
  refine ⟨k + 1, (by omega), (by show n - (k + 1) < n - k; omega), St.le_of rfl ⟨⟨_, rfl, Blk.le_refl _⟩, ⟨_, rfl, Blk.le_refl _⟩, ⟨_, rfl, Blk.le_refl _⟩, ⟨_, rfl, ?_⟩, ⟨_, rfl, ?_⟩, ⟨_, rfl, ?_⟩, ⟨_, rfl, Blk.le_refl _⟩, ⟨_, rfl, Blk.le_refl _⟩, trivial⟩ ⟨rfl, rfl, rfl, rfl, rfl, rfl, rfl, by simp [up, I], trivial⟩⟩
  · rw [hnext]; exact Blk.le_refl _
  · rw [hnext]; exact Blk.le_refl _
  · rw [hnext]; exact Blk.le_refl _
theorem take_foldG {β : Type} (f : β → Eg → β) (r : β) (l : List Eg) (k : Nat) (h : k < l.length) : (l.take (k + 1)).foldl f r = f ((l.take k).foldl f r) (l.getD k (0, 0)) := by
  rw [List.take_add_one, List.getElem?_eq_getElem h, List.foldl_append, List.getD_eq_getElem?_getD, List.getElem?_eq_getElem h]
  rfl
theorem up_elB (f : Nat → Bool) (a i : Nat) (v x : Bool) (hx : x = v) : (bif Nat.beq i a then [Value.bool x] else elB f i) = elB (fup f a v) i := by
  subst hx
  simp only [elB, fup]
  by_cases e : i = a
  · subst e; simp
  · simp [nbeq e, e]
theorem reached_any (L : List Eg) (A : Option Addr) (c n : Nat) (s : Ms) (hL : ∀ e ∈ L, e.1 < 24 ∧ e.2 < 24) (hlen : L.length ≤ 4611686018427387900) (hn : n ≤ 24) (hb : Bd s) (w : World) (hl : RdRow w A L.length 2 (elG L)) :
    Calls Try.prog 61 #[I n, .slice A L.length c, arrL s.left, arrL s.right] w fun e w' => e = .returned (.tuple #[arrB (reached n L s).a, arrB (reached n L s).b]) ∧ Below w.heap.size w w' := by
  refine enterPlain tfine Try.func61 rfl 66 Try.ntmps61 [.c (.k (I n)), .c (.inp 1000 A L.length c), .agg ((a24 fun i => I (s.left i)).map .k), .agg ((a24 fun i => I (s.right i)).map .k)] [⟨1000, A, 2, L.length, elG L⟩] rfl rfl ⟨hl, trivial⟩ ⟨trivial, .inl ⟨rfl, rfl, rfl⟩, ⟨trivial, trivial, trivial, trivial, trivial, trivial, trivial, trivial, trivial, trivial, trivial, trivial, trivial, trivial, trivial, trivial, trivial, trivial, trivial, trivial, trivial, trivial, trivial, trivial, trivial⟩, ⟨trivial, trivial, trivial, trivial, trivial, trivial, trivial, trivial, trivial, trivial, trivial, trivial, trivial, trivial, trivial, trivial, trivial, trivial, trivial, trivial, trivial, trivial, trivial, trivial, trivial⟩, trivial⟩ ?_
  refine G.seqR tfine rfl trivial ?_
  refine G.seqR tfine rfl trivial ?_
  refine G.seq (G.seqR tfine rfl trivial ?_)
  refine G.block (G.loop (fun z : Nat => St.of [(1, .v (.c (.inp 1000 A L.length c))), (6, .v (.c (.ptr 6 0 1 0))), (7, .v (.c (.ptr 7 0 1 0))), (8, .v (.c (.ptr 8 0 1 0))), (9, .v (.c (.ptr 9 0 1 0))), (10, .v (.c (.ptr 10 0 1 0))), (11, .v (.c (.ptr 11 0 1 0))), (15, .v (.c (.k (I n)))), (16, .v (.c (.k (I z))))]
      [(6, .arr 81 1 24 (elT s.left) 0), (7, .arr 81 1 24 (elT s.right) 0), (8, .arr 84 1 24 (elB fun _ => false) 0), (9, .arr 84 1 24 (elB fun _ => false) 0), (10, .arr 84 1 24 (elB fun i => decide (i < z) && decide (s.left i = 0)) 0), (11, .arr 84 1 24 (elB fun _ => false) 0), (1000, .ro 2 L.length (elG L))])
    (fun z => z ≤ n) (fun z => n - z) 0 (Nat.zero_le _)
    (St.le_of rfl ⟨⟨_, rfl, rfl, rfl, Nat.le_refl _, fun i hi => (a24_el (fun i => I (s.left i)) hi).symm, Nat.le_refl _⟩, ⟨_, rfl, rfl, rfl, Nat.le_refl _, fun i hi => (a24_el (fun i => I (s.right i)) hi).symm, Nat.le_refl _⟩, ⟨_, rfl, rfl, rfl, Nat.le_refl _, fun i hi => rfl, Nat.le_refl _⟩, ⟨_, rfl, rfl, rfl, Nat.le_refl _, fun i hi => rfl, Nat.le_refl _⟩, ⟨_, rfl, rfl, rfl, Nat.le_refl _, fun i hi => by simp [elB]; rfl, Nat.le_refl _⟩, ⟨_, rfl, rfl, rfl, Nat.le_refl _, fun i hi => rfl, Nat.le_refl _⟩, ⟨_, rfl, Blk.le_refl _⟩, trivial⟩ ⟨rfl, rfl, rfl, rfl, rfl, rfl, rfl, rfl, rfl, trivial⟩) ?_)
  intro k hk
  refine G.seqR tfine rfl trivial ?_
  refine G.seq (G.cond (b := decide ((k : Int) < (n : Int))) rfl (fun h => ?_) (fun h => ?_))
  · have h := of_decide_eq_true h
    have hlt : k < n := by omega
    refine G.skip ?_
    refine G.seq (G.block ?_)
    refine G.seqR tfine rfl trivial ?_
    refine G.reg tfine rfl ?_ ?_
    · simp [AllP]
      omega
    rw [Int.toNat_natCast]
    refine G.reg tfine rfl trivial ?_
    rw [IntWalk.i64_in _ (by omega)]
    refine ⟨k + 1, (by omega), (by show n - (k + 1) < n - k; omega), St.le_of rfl ⟨⟨_, rfl, Blk.le_refl _⟩, ⟨_, rfl, Blk.le_refl _⟩, ⟨_, rfl, Blk.le_refl _⟩, ⟨_, rfl, Blk.le_refl _⟩, ⟨_, rfl, rfl, rfl, Nat.le_refl _, fun i hi => ?_, Nat.le_refl _⟩, ⟨_, rfl, Blk.le_refl _⟩, ⟨_, rfl, Blk.le_refl _⟩, trivial⟩ ⟨rfl, rfl, rfl, rfl, rfl, rfl, rfl, rfl, by simp [up, I], trivial⟩⟩
    simp only [elB]
    by_cases e : i = k
    · subst e
      simp
      rw [Bool.eq_iff_iff]
      simp only [decide_eq_true_eq, beq_iff_eq]
      omega
    · simp [nbeq e]
      have : (i < k + 1) ↔ (i < k) := by omega
      simp [this]
  have h := of_decide_eq_false h
  have : k = n := by omega
  subst this
  refine G.exit ?_
  refine G.seq (G.seqR tfine rfl trivial ?_)
  rw [IntWalk.i64_in _ (by omega)]
  obtain ⟨R, hR⟩ : ∃ R : Nat → Rc, ∀ j, R j = (List.range j).foldl (fun r _ => pass L s r) (rc0 k s) := ⟨_, fun _ => rfl⟩
  have hR0 : R 0 = rc0 k s := hR 0
  have hRs : ∀ j, R (j + 1) = pass L s (R j) := fun j => by rw [hR, hR, List.range_succ, List.foldl_append]; rfl
  refine G.block (G.loop (fun z : Nat => St.of [(1, .v (.c (.inp 1000 A L.length c))), (7, .v (.c (.ptr 7 0 1 0))), (8, .v (.c (.ptr 8 0 1 0))), (9, .v (.c (.ptr 9 0 1 0))), (10, .v (.c (.ptr 10 0 1 0))), (11, .v (.c (.ptr 11 0 1 0))), (28, .v (.c (.k (I ((L.length : Int) + 1))))), (29, .v (.c (.k (I z))))]
      [(7, .arr 81 1 24 (elT s.right) 0), (8, .arr 84 1 24 (elB fun _ => false) 0), (9, .arr 84 1 24 (elB fun _ => false) 0), (10, .arr 84 1 24 (elB (R z).a) 0), (11, .arr 84 1 24 (elB (R z).b) 0), (1000, .ro 2 L.length (elG L))])
    (fun z => z ≤ L.length + 1) (fun z => L.length + 1 - z) 0 (Nat.zero_le _)
    (St.le_of rfl ⟨⟨_, rfl, Blk.le_refl _⟩, ⟨_, rfl, Blk.le_refl _⟩, ⟨_, rfl, Blk.le_refl _⟩, ⟨_, rfl, rfl, rfl, Nat.le_refl _, fun i hi => by rw [hR0]; rfl, Nat.le_refl _⟩, ⟨_, rfl, rfl, rfl, Nat.le_refl _, fun i hi => by rw [hR0]; rfl, Nat.le_refl _⟩, ⟨_, rfl, Blk.le_refl _⟩, trivial⟩ ⟨rfl, rfl, rfl, rfl, rfl, rfl, rfl, rfl, trivial⟩) ?_)
  intro j hj
  refine G.seqR tfine rfl trivial ?_
  refine G.seq (G.cond (b := decide ((j : Int) < (L.length : Int) + 1)) rfl (fun h2 => ?_) (fun h2 => ?_))
  rotate_left
  · have h2 := of_decide_eq_false h2
    have : j = L.length + 1 := by omega
    subst this
    refine G.exit ?_
    refine G.seqD tfine hmix [0, 0, 1, 7] [(2, 8), (3, 9)] rfl rfl rfl rfl trivial ?_
    refine G.ret (endK.ret rfl ?_)
    have : reached k L s = R (L.length + 1) := (hR _).symm
    rw [this]
    rfl
  have h2 := of_decide_eq_true h2
  refine G.skip ?_
  refine G.seq (G.block ?_)
  refine G.seqR tfine rfl trivial ?_
  obtain ⟨Q, hQ⟩ : ∃ Q : Nat → Rc, ∀ i, Q i = (L.take i).foldl (touch s) (R j) := ⟨_, fun _ => rfl⟩
  have hQ0 : Q 0 = R j := hQ 0
  have hQs : ∀ i, i < L.length → Q (i + 1) = touch s (Q i) (L.getD i (0, 0)) := fun i hi => by rw [hQ, hQ, take_foldG _ _ _ _ hi]
  refine G.block (G.loop (fun z : Nat => St.of [(1, .v (.c (.inp 1000 A L.length c))), (7, .v (.c (.ptr 7 0 1 0))), (8, .v (.c (.ptr 8 0 1 0))), (9, .v (.c (.ptr 9 0 1 0))), (10, .v (.c (.ptr 10 0 1 0))), (11, .v (.c (.ptr 11 0 1 0))), (28, .v (.c (.k (I ((L.length : Int) + 1))))), (29, .v (.c (.k (I j)))), (31, .v (.c (.inp 1000 A L.length c))), (32, .v (.c (.k (I L.length)))), (33, .v (.c (.k (I z))))]
      [(7, .arr 81 1 24 (elT s.right) 0), (8, .arr 84 1 24 (elB fun _ => false) 0), (9, .arr 84 1 24 (elB fun _ => false) 0), (10, .arr 84 1 24 (elB (Q z).a) 0), (11, .arr 84 1 24 (elB (Q z).b) 0), (1000, .ro 2 L.length (elG L))])
    (fun z => z ≤ L.length) (fun z => L.length - z) 0 (Nat.zero_le _)
    (St.le_of rfl ⟨⟨_, rfl, Blk.le_refl _⟩, ⟨_, rfl, Blk.le_refl _⟩, ⟨_, rfl, Blk.le_refl _⟩, ⟨_, rfl, rfl, rfl, Nat.le_refl _, fun i hi => by rw [hQ0], Nat.le_refl _⟩, ⟨_, rfl, rfl, rfl, Nat.le_refl _, fun i hi => by rw [hQ0], Nat.le_refl _⟩, ⟨_, rfl, Blk.le_refl _⟩, trivial⟩ ⟨rfl, rfl, rfl, rfl, rfl, rfl, rfl, rfl, rfl, rfl, rfl, trivial⟩) ?_)
  intro i hi
  refine G.seqR tfine rfl trivial ?_
  refine G.seq (G.cond (b := decide ((i : Int) < (L.length : Int))) rfl (fun h3 => ?_) (fun h3 => ?_))
  rotate_left
  · have h3 := of_decide_eq_false h3
    have : i = L.length := by omega
    subst this
    refine G.exit ?_
    refine G.reg tfine rfl trivial ?_
    rw [IntWalk.i64_in _ (by omega)]
    have e : Q L.length = R (j + 1) := by rw [hQ, List.take_length, hRs]; rfl
    refine ⟨j + 1, (by omega), (by show L.length + 1 - (j + 1) < L.length + 1 - j; omega), St.le_of rfl ⟨⟨_, rfl, Blk.le_refl _⟩, ⟨_, rfl, Blk.le_refl _⟩, ⟨_, rfl, Blk.le_refl _⟩, ⟨_, rfl, ?_⟩, ⟨_, rfl, ?_⟩, ⟨_, rfl, Blk.le_refl _⟩, trivial⟩ ⟨rfl, rfl, rfl, rfl, rfl, rfl, rfl, by simp [up, I], trivial⟩⟩
    · rw [← e]; exact Blk.le_refl _
    · rw [← e]; exact Blk.le_refl _
  have h3 := of_decide_eq_true h3
  have hlt : i < L.length := by omega
  obtain ⟨x, hx⟩ : ∃ x, x = (L.getD i (0, 0)).1 := ⟨_, rfl⟩
  obtain ⟨y, hy⟩ : ∃ y, y = (L.getD i (0, 0)).2 := ⟨_, rfl⟩
  have hmem : (x, y) ∈ L := by
    have : (x, y) = L.getD i (0, 0) := by rw [hx, hy]
    rw [this, List.getD_eq_getElem?_getD, List.getElem?_eq_getElem hlt]; exact List.getElem_mem hlt
  have hx24 : x < 24 := (hL _ hmem).1
  have hy24 : y < 24 := (hL _ hmem).2
  have hQn := hQs i hlt
  rw [show L.getD i (0, 0) = (x, y) by rw [hx, hy], touch] at hQn
  refine G.skip ?_
  refine G.seq (G.block ?_)
  refine G.seqR tfine rfl ⟨by simpa using hlt, by omega, by omega, trivial⟩ ?_
  rw [Int.toNat_natCast, ← hx, ← hy]
  refine G.seqR tfine rfl ?_ ?_
  · simp [AllP, condB]
    omega
  rw [Int.toNat_natCast, Int.toNat_natCast]
  refine G.cond (b := (Q i).a x && !(Q i).b y) rfl (fun h4 => ?_) (fun h4 => ?_)
  rotate_left
  · refine G.skip ?_
    refine G.reg tfine rfl trivial ?_
    rw [IntWalk.i64_in _ (by omega)]
    rw [if_neg (by simpa using h4)] at hQn
    refine ⟨i + 1, (by omega), (by show L.length - (i + 1) < L.length - i; omega), St.le_of rfl ⟨⟨_, rfl, Blk.le_refl _⟩, ⟨_, rfl, Blk.le_refl _⟩, ⟨_, rfl, Blk.le_refl _⟩, ⟨_, rfl, ?_⟩, ⟨_, rfl, ?_⟩, ⟨_, rfl, Blk.le_refl _⟩, trivial⟩ ⟨rfl, rfl, rfl, rfl, rfl, rfl, rfl, rfl, rfl, rfl, by simp [up, I], trivial⟩⟩
    · rw [hQn]; exact Blk.le_refl _
    · rw [hQn]; exact Blk.le_refl _
  rw [if_pos h4] at hQn
  refine G.seqR tfine rfl ?_ ?_
  · simp [AllP]
    omega
  refine G.seqR tfine rfl ?_ ?_
  · simp [AllP]
    omega
  rw [Int.toNat_natCast]
  have hr24 := hb.r y
  refine G.cond (b := decide ((s.right y : Int) > 0)) rfl (fun h5 => ?_) (fun h5 => ?_)
  · have h5 := of_decide_eq_true h5
    rw [if_pos (show s.right y > 0 by omega)] at hQn
    refine G.reg tfine rfl ?_ ?_
    · simp only [AllP, Int.toNat_natCast]
      rw [IntWalk.i64_in ((s.right y : Int) - 1) (by omega)]
      and_intros <;> first | trivial | omega
    rw [Int.toNat_natCast, IntWalk.i64_in ((s.right y : Int) - 1) (by omega)]
    refine G.reg tfine rfl trivial ?_
    rw [IntWalk.i64_in ((i : Int) + 1) (by omega)]
    refine ⟨i + 1, (by omega), (by show L.length - (i + 1) < L.length - i; omega), St.le_of rfl ⟨⟨_, rfl, Blk.le_refl _⟩, ⟨_, rfl, Blk.le_refl _⟩, ⟨_, rfl, Blk.le_refl _⟩, ⟨_, rfl, rfl, rfl, Nat.le_refl _, fun q hq => ?_, Nat.le_refl _⟩, ⟨_, rfl, rfl, rfl, Nat.le_refl _, fun q hq => ?_, Nat.le_refl _⟩, ⟨_, rfl, Blk.le_refl _⟩, trivial⟩ ⟨rfl, rfl, rfl, rfl, rfl, rfl, rfl, rfl, rfl, rfl, by simp [up, I], trivial⟩⟩
    · have e : ((s.right y : Int) - 1).toNat = s.right y - 1 := by omega
      rw [hQn, e]
      exact (up_elB _ _ _ _ _ rfl).symm
    · rw [hQn]
      exact (up_elB _ _ _ _ _ rfl).symm
  · have h5 := of_decide_eq_false h5
    rw [if_neg (show ¬ s.right y > 0 by omega)] at hQn
    refine G.skip ?_
    refine G.reg tfine rfl trivial ?_
    rw [IntWalk.i64_in ((i : Int) + 1) (by omega)]
    refine ⟨i + 1, (by omega), (by show L.length - (i + 1) < L.length - i; omega), St.le_of rfl ⟨⟨_, rfl, Blk.le_refl _⟩, ⟨_, rfl, Blk.le_refl _⟩, ⟨_, rfl, Blk.le_refl _⟩, ⟨_, rfl, ?_⟩, ⟨_, rfl, rfl, rfl, Nat.le_refl _, fun q hq => ?_, Nat.le_refl _⟩, ⟨_, rfl, Blk.le_refl _⟩, trivial⟩ ⟨rfl, rfl, rfl, rfl, rfl, rfl, rfl, rfl, rfl, rfl, by simp [up, I], trivial⟩⟩
    · rw [hQn]; exact Blk.le_refl _
    · rw [hQn]
      exact (up_elB _ _ _ _ _ rfl).symm
end Go.Proofs.Ytpoalimbjeehkaa
/- Chapter 02: the total of the program. -/
set_option linter.unusedVariables false
set_option linter.unusedSimpArgs false
namespace Go.Proofs.Ytpoalimbjeehkaa
open Go.Sx Go.RowKit
def SQ (l : List Int) (b rule : Int) : Int := (l.map fun n => rndQ n b rule).sum
def SR (l : List Int) (b rule : Int) : Int := (l.map fun n => rndR n b rule).sum
def total3 (l : List Int) (b rule : Int) : Int × Int × Int := if (!isB rule) = true then (0, 0, 1) else if decide ((l.length : Int) > 64) = true then (0, 0, 8) else if (!divB b || l.any badB) = true then (0, 0, 2) else (SQ l b rule, SR l b rule, 0)
theorem sum_take (f : Int → Int) (l : List Int) (k : Nat) (h : k < l.length) : ((l.take (k + 1)).map f).sum = ((l.take k).map f).sum + f (l.getD k 0) := by
  rw [List.take_succ_eq_append_getElem h, List.map_append, List.sum_append]
  simp [List.getD_eq_getElem?_getD, List.getElem?_eq_getElem h]
theorem sum_bound (f : Int → Int) (B : Int) (l : List Int) (hf : ∀ x ∈ l, -B ≤ f x ∧ f x ≤ B) : -(l.length * B) ≤ (l.map f).sum ∧ (l.map f).sum ≤ l.length * B := by
  induction l with
  | nil => simp
  | cons a r ih =>
    have h1 := hf a (by simp)
    have h2 := ih fun x hx => hf x (by simp [hx])
    simp only [List.map_cons, List.sum_cons, List.length_cons]
    have : ((r.length + 1 : Nat) : Int) * B = r.length * B + B := by rw [Int.natCast_add]; simp [Int.add_mul]
    omega
theorem rnd_bound {a b rule : Int} (ha : -M ≤ a ∧ a ≤ M) (hb : 1 ≤ b ∧ b ≤ M) : (-(M + 1) ≤ rndQ a b rule ∧ rndQ a b rule ≤ M + 1) ∧ (-(M + 1) ≤ rndR a b rule ∧ rndR a b rule ≤ M + 1) := by
  have h0 := Int.emod_nonneg a (show b ≠ 0 by omega)
  have h1 := Int.emod_lt_of_pos a (show 0 < b by omega)
  have h2 := div_bound ha hb.1
  unfold rndQ rndR
  split <;> (unfold M at *; omega)
theorem bad_false {l : List Int} (h : l.any badB = false) : ∀ x ∈ l, 0 ≤ x ∧ x ≤ M := by
  intro x hx
  have := List.any_eq_false.1 h x hx
  simp [badB] at this
  unfold M
  omega
theorem SatM.var {E : Env} {ρ : Val} {m : Mem} {w : World} (h : SatM E ρ m w) {x : Nat} {ty : TypeId} {cs : List Value} (hx : m x = some (.var ty (cs.map .k))) : (ρ x).2 = 0 ∧ w.heap[(ρ x).1]? = some (.cells cs.toArray ty (0, 0)) := by
  have := h.ok x _ hx
  exact ⟨this.1, by rw [this.2.2.1, map_conc_k]⟩
end Go.Proofs.Ytpoalimbjeehkaa
/- Chapter 02: the copy of a row. -/
set_option linter.unusedVariables false
set_option linter.unusedSimpArgs false
namespace Go.Proofs.Ytpoalimbjeehkaa
open Go.Sx Go.RowKit
theorem info3 : (Try.prog.info? 3).map (fun i => (i.zero, i.size, i.bytes)) = some (some (.int .i64 0), 1, 8) := by kernel_rfl
theorem apT35 : ApT Try.prog 24 3 1 8 (.int .i64 0) := ⟨Try.underlying24, info3, rfl, by decide⟩
theorem clone_any (A : Option Addr) (c : Nat) (l : List Int) (w : World) (hl : RdRow w A l.length 1 (elI l)) (hm : l.length ≤ maxLen) (hy : l.length * 8 ≤ 140737488355328) (hA : A = none → l.length = 0) :
    Calls Try.prog 19 #[.slice A l.length c] w fun e w' => ∃ A' c', e = .returned (.slice A' l.length c') ∧ RdNew w w' A' l.length 1 (elI l) ∧ Below w.heap.size w w' := by
  refine enterRow tfine l.length 1 (elI l) Try.func19 rfl 8 Try.ntmps19 [.c (.inp 1000 A l.length c)] [⟨1000, A, 1, l.length, elI l⟩] rfl rfl ⟨hl, trivial⟩ ⟨.inl ⟨rfl, rfl, rfl⟩, trivial⟩ ?_
  refine G.seqR tfine rfl trivial ?_
  refine G.seq (G.seqR tfine rfl trivial ?_)
  refine G.cond rfl (fun h => ?_) (fun h => ?_)
  · refine G.seqR tfine rfl trivial ?_
    have : A = none := by cases A <;> simp at h ⊢
    refine G.ret (endRow.ret rfl ⟨(hA this).symm, hA this⟩)
  refine G.skip ?_
  refine G.seqC tfine rfl trivial ?_
  refine GO.emptySlice tfine rfl rfl rfl rfl rfl rfl rfl fun A0 => ?_
  refine GO.more tfine rfl trivial ?_
  refine GO.appendNew (elI l) apT35 rfl rfl rfl rfl rfl rfl rfl rfl (RowOf.ro rfl) (fun k hk => rfl) (fun i hi u hu => by simp [elI] at hu; subst hu; rfl) hm hy (fun h0 => ?_) fun h0 c' hc' => ?_
  · refine GO.fin tfine rfl trivial ?_
    exact G.ret (endRow.ret rfl ⟨h0.symm, h0⟩)
  · refine GO.fin tfine rfl trivial ?_
    exact G.ret (endRow.ret rfl ⟨rfl, rfl, rfl, by simp, fun i hi => by simp⟩)
end Go.Proofs.Ytpoalimbjeehkaa
/- Chapter 37: where, size, and the faults of edges. -/
set_option linter.unusedVariables false
set_option linter.unusedSimpArgs false
set_option maxRecDepth 8000
set_option maxHeartbeats 1000000
namespace Go.Proofs.Ytpoalimbjeehkaa
open Go.Sx Go.RowKit Mt
def elW (l : List Nat) (i : Nat) : List Value := [I (l.getD i 0)]
theorem allAC24 (f : Nat → Value) (inp : List Inp) : allAC inp ((a24 f).map .k) := ⟨trivial, trivial, trivial, trivial, trivial, trivial, trivial, trivial, trivial, trivial, trivial, trivial, trivial, trivial, trivial, trivial, trivial, trivial, trivial, trivial, trivial, trivial, trivial, trivial, trivial⟩
theorem filter_succ (p : Nat → Bool) (k : Nat) : (List.range (k + 1)).filter p = (List.range k).filter p ++ (if p k then [k] else []) := by
  rw [List.range_succ, List.filter_append]
  cases h : p k <;> simp [h]
theorem getD_app_lt {l r : List Nat} {i : Nat} (h : i < l.length) : (l ++ r).getD i 0 = l.getD i 0 := by
  rw [List.getD_eq_getElem?_getD, List.getD_eq_getElem?_getD, List.getElem?_append_left h]
theorem getD_app_eq {l : List Nat} {x : Nat} : (l ++ [x]).getD l.length 0 = x := by
  rw [List.getD_eq_getElem?_getD, List.getElem?_append_right (Nat.le_refl _), Nat.sub_self]
  rfl
theorem where_any (f : Nat → Bool) (most : Nat) (v : Bool) (w : World) : Calls Try.prog 62 #[arrB f, I most, .bool v] w fun e w' => Ans w w' [.c (.r (whereM f most v).length 1 (elW (whereM f most v)))] e ∧ Below w.heap.size w w' := by
  refine enterAns tfine _ Try.func62 rfl 29 Try.ntmps62 [.agg ((a24 fun i => .bool (f i)).map .k), .c (.k (I most)), .c (.k (.bool v))] [] rfl rfl trivial ⟨allAC24 (fun i => .bool (f i)) [], trivial, trivial, trivial⟩ ?_
  obtain ⟨p, hp⟩ : ∃ p : Nat → Bool, p = fun i => decide (i < most) && (f i == v) := ⟨_, rfl⟩
  have hw : whereM f most v = (List.range 24).filter p := by rw [hp]; rfl
  rw [hw]
  refine G.seqR tfine rfl trivial ?_
  refine G.seqR tfine rfl trivial ?_
  refine G.seq (G.seqR tfine rfl trivial ?_)
  refine G.block (G.loop (fun z : Nat × Nat => St.of [(1, .v (.c (.k (I most)))), (2, .v (.c (.k (.bool v)))), (7, .v (.c (accV 26 1 ((List.range z.1).filter p).length z.2))), (10, .v (.agg ((a24 fun i => .bool (f i)).map .k))), (11, .v (.c (.k (I z.1))))]
      (accMl 26 3 1 ((List.range z.1).filter p).length z.2 (elW ((List.range z.1).filter p))))
    (fun z => z.1 ≤ 24 ∧ ((List.range z.1).filter p).length ≤ z.2) (fun z => 24 - z.1) (0, 0) ⟨Nat.zero_le _, Nat.le_refl _⟩ (St.le_of rfl trivial ⟨rfl, rfl, rfl, rfl, rfl, trivial⟩) ?_)
  rintro ⟨k, cp⟩ ⟨hk, hcp⟩
  dsimp only at hk hcp ⊢
  obtain ⟨acc, hacc⟩ : ∃ acc, acc = (List.range k).filter p := ⟨_, rfl⟩
  have hs := filter_succ p k
  rw [← hacc] at hcp hs ⊢
  have hal : acc.length ≤ k := by rw [hacc]; have := List.length_filter_le p (List.range k); simpa using this
  obtain ⟨na, hna⟩ : ∃ na, na = acc.length := ⟨_, rfl⟩
  rw [← hna] at hcp hal ⊢
  rcases na with _ | na
  · refine G.seqR tfine rfl trivial ?_
    refine G.seq (G.cond (b := decide ((k : Int) < 24)) rfl (fun h => ?_) (fun h => ?_))
    rotate_left
    · have h := of_decide_eq_false h
      have : k = 24 := by omega
      subst this
      refine G.exit ?_
      refine G.seqR tfine rfl trivial ?_
      rw [← hacc, ← hna]
      exact G.ret (endAns.ret ⟨⟨_, rfl, ⟨rfl, rfl, fun a h => by cases h⟩⟩, trivial⟩)
    have h := of_decide_eq_true h
    have hlt : k < 24 := by omega
    refine G.skip ?_
    refine G.seq (G.block ?_)
    refine G.seq (G.region_lit ?_)
    refine GO.step tfine rfl trivial ?_
    refine GO.indexAt tfine (a24 fun i => .bool (f i)) k (.bool (f k)) rfl rfl rfl rfl rfl rfl rfl rfl rfl rfl rfl (a24_get _ hlt) hlt ?_
    refine GO.fin tfine rfl trivial ?_
    refine G.seqR tfine rfl ?_ ?_
    · simp [AllP, condB]
    have hpk : (decide ((k : Int) < (most : Int)) && (f k == v)) = p k := by rw [hp]; simp
    refine G.cond (b := decide ((k : Int) < (most : Int)) && (f k == v)) rfl (fun h2 => ?_) (fun h2 => ?_)
    · refine G.regC tfine rfl trivial ?_
      rw [hpk] at h2
      rw [h2, if_pos rfl] at hs
      refine GO.appendAcc (n := 0) (c := cp) (el := elW acc) [I k] [(1, .v (.c (.k (I most)))), (2, .v (.c (.k (.bool v)))), (10, .v (.agg ((a24 fun i => .bool (f i)).map .k))), (11, .v (.c (.k (I k))))] [] apT35 rfl rfl rfl rfl rfl rfl (fun h => absurd h (Nat.lt_irrefl 0)) rfl rfl rfl (fun u hu => by simp at hu; subst hu; rfl) (St.le_of rfl trivial ⟨rfl, rfl, rfl, rfl, trivial⟩) (fun z b h => by cases h) (fun k hk => rfl) (by unfold maxLen; omega) (by omega) fun c' hc' => ?_
      refine GO.fin tfine rfl trivial ?_
      refine G.reg tfine rfl trivial ?_
      rw [IntWalk.i64_in ((k : Int) + 1) (by omega)]
      have hl : (acc ++ [k]).length = 0 + 1 := by rw [List.length_append, ← hna]; rfl
      refine ⟨(k + 1, c'), ⟨by simp only; omega, by simp only [hs]; rw [hl]; exact hc'⟩, (by show 24 - (k + 1) < 24 - k; omega), ?_⟩
      simp only [hs]
      rw [hl]
      refine St.le_of rfl ⟨⟨_, rfl, rfl, rfl, Nat.le_refl _, fun i hi => ?_, Nat.le_refl _⟩, trivial⟩ ⟨rfl, rfl, rfl, rfl, by simp [up, I], trivial⟩
      have hi' : i < 1 := hi
      by_cases e : i = 0
      · subst e
        rw [elN_eq, hna]
        simp only [elW, getD_app_eq]
      · rw [elN_lt (by omega)]
        simp only [elW]
        rw [getD_app_lt (by omega)]
    · refine G.skip ?_
      refine G.reg tfine rfl trivial ?_
      rw [IntWalk.i64_in ((k : Int) + 1) (by omega)]
      rw [hpk] at h2
      rw [h2, if_neg (by simp), List.append_nil] at hs
      refine ⟨(k + 1, cp), ⟨by simp only; omega, by simp only [hs]; rw [← hna]; exact hcp⟩, (by show 24 - (k + 1) < 24 - k; omega), ?_⟩
      simp only [hs]
      rw [← hna]
      exact St.le_of rfl trivial ⟨rfl, rfl, rfl, rfl, by simp [up, I], trivial⟩
  · refine G.seqR tfine rfl trivial ?_
    refine G.seq (G.cond (b := decide ((k : Int) < 24)) rfl (fun h => ?_) (fun h => ?_))
    rotate_left
    · have h := of_decide_eq_false h
      have : k = 24 := by omega
      subst this
      refine G.exit ?_
      refine G.seqR tfine rfl trivial ?_
      rw [← hacc, ← hna]
      exact G.ret (endAns.ret ⟨⟨_, rfl, ⟨hcp, rfl, rfl, rfl, (by omega), fun i hi => by rw [Nat.zero_add]⟩⟩, trivial⟩)
    have h := of_decide_eq_true h
    have hlt : k < 24 := by omega
    refine G.skip ?_
    refine G.seq (G.block ?_)
    refine G.seq (G.region_lit ?_)
    refine GO.step tfine rfl trivial ?_
    refine GO.indexAt tfine (a24 fun i => .bool (f i)) k (.bool (f k)) rfl rfl rfl rfl rfl rfl rfl rfl rfl rfl rfl (a24_get _ hlt) hlt ?_
    refine GO.fin tfine rfl trivial ?_
    refine G.seqR tfine rfl ?_ ?_
    · simp [AllP, condB]
    have hpk : (decide ((k : Int) < (most : Int)) && (f k == v)) = p k := by rw [hp]; simp
    refine G.cond (b := decide ((k : Int) < (most : Int)) && (f k == v)) rfl (fun h2 => ?_) (fun h2 => ?_)
    · refine G.regC tfine rfl trivial ?_
      rw [hpk] at h2
      rw [h2, if_pos rfl] at hs
      refine GO.appendAcc (n := (na + 1)) (c := cp) (el := elW acc) [I k] [(1, .v (.c (.k (I most)))), (2, .v (.c (.k (.bool v)))), (10, .v (.agg ((a24 fun i => .bool (f i)).map .k))), (11, .v (.c (.k (I k))))] [] apT35 rfl rfl rfl rfl rfl rfl (fun _ => rfl) rfl rfl rfl (fun u hu => by simp at hu; subst hu; rfl) (St.le_of rfl trivial ⟨rfl, rfl, rfl, rfl, trivial⟩) (fun z b h => by cases h) (fun k hk => rfl) (by unfold maxLen; omega) (by omega) fun c' hc' => ?_
      refine GO.fin tfine rfl trivial ?_
      refine G.reg tfine rfl trivial ?_
      rw [IntWalk.i64_in ((k : Int) + 1) (by omega)]
      have hl : (acc ++ [k]).length = (na + 1) + 1 := by rw [List.length_append, ← hna]; rfl
      refine ⟨(k + 1, c'), ⟨by simp only; omega, by simp only [hs]; rw [hl]; exact hc'⟩, (by show 24 - (k + 1) < 24 - k; omega), ?_⟩
      simp only [hs]
      rw [hl]
      refine St.le_of rfl ⟨⟨_, rfl, rfl, rfl, Nat.le_refl _, fun i hi => ?_, Nat.le_refl _⟩, trivial⟩ ⟨rfl, rfl, rfl, rfl, by simp [up, I], trivial⟩
      have hi' : i < na + 2 := hi
      by_cases e : i = (na + 1)
      · subst e
        rw [elN_eq, hna]
        simp only [elW, getD_app_eq]
      · rw [elN_lt (by omega)]
        simp only [elW]
        rw [getD_app_lt (by omega)]
    · refine G.skip ?_
      refine G.reg tfine rfl trivial ?_
      rw [IntWalk.i64_in ((k : Int) + 1) (by omega)]
      rw [hpk] at h2
      rw [h2, if_neg (by simp), List.append_nil] at hs
      refine ⟨(k + 1, cp), ⟨by simp only; omega, by simp only [hs]; rw [← hna]; exact hcp⟩, (by show 24 - (k + 1) < 24 - k; omega), ?_⟩
      simp only [hs]
      rw [← hna]
      exact St.le_of rfl ⟨⟨_, rfl, Blk.le_refl _⟩, trivial⟩ ⟨rfl, rfl, rfl, rfl, by simp [up, I], trivial⟩
end Go.Proofs.Ytpoalimbjeehkaa
/- Chapter 37: copies of edges and of numbers, and the faults of edges. -/
set_option linter.unusedVariables false
set_option linter.unusedSimpArgs false
set_option maxRecDepth 8000
set_option maxHeartbeats 1000000
namespace Go.Proofs.Ytpoalimbjeehkaa
open Go.Sx Go.RowKit Mt
abbrev EI := Int × Int
def elE (l : List EI) (i : Nat) : List Value := [I (l.getD i (0, 0)).1, I (l.getD i (0, 0)).2]
def castL (L : List Eg) : List EI := L.map fun e => ((e.1 : Int), (e.2 : Int))
theorem castL_len (L : List Eg) : (castL L).length = L.length := by simp [castL]
theorem elE_cast (L : List Eg) (i : Nat) : elE (castL L) i = elG L i := by
  simp only [elE, elG, castL, List.getD_eq_getElem?_getD, List.getElem?_map]
  cases L[i]? <;> rfl
theorem apE : ApT Try.prog 45 68 2 16 (.agg #[I 0, I 0]) := ⟨by kernel_rfl, by kernel_rfl, rfl, by decide⟩
theorem row_none {w : World} {A : Option Addr} {n sz : Nat} {el : Nat → List Value} (h : RdRow w A n sz el) (hA : A = none) : n = 0 := by
  by_cases h0 : 0 < n
  · obtain ⟨b, o, e, _⟩ := h h0
    rw [hA] at e; cases e
  · omega
theorem cloneI_any (A : Option Addr) (c n : Nat) (el : Nat → List Value) (w : World) (hl : RdRow w A n 1 el) (h2 : ∀ i, i < n → (el i).length = 1) (h1 : ∀ i, i < n → ∀ u ∈ el i, u.oneCell' = true) (hm : n ≤ 1000000) :
    Calls Try.prog 19 #[.slice A n c] w fun e w' => Ans w w' [.c (.r n 1 el)] e ∧ Below w.heap.size w w' := by
  refine enterAns tfine _ Try.func19 rfl 8 Try.ntmps19 [.c (.inp 1000 A n c)] [⟨1000, A, 1, n, el⟩] rfl rfl ⟨hl, trivial⟩ ⟨.inl ⟨rfl, rfl, rfl⟩, trivial⟩ ?_
  refine G.seqR tfine rfl trivial ?_
  refine G.seq (G.seqR tfine rfl trivial ?_)
  refine G.cond rfl (fun h => ?_) (fun h => ?_)
  · refine G.seqR tfine rfl trivial ?_
    have hA : A = none := by cases A <;> simp at h ⊢
    have h0 := row_none hl hA
    exact G.ret (endAns.ret ⟨⟨_, rfl, h0.symm, h0, fun a h => by cases h⟩, trivial⟩)
  refine G.skip ?_
  refine G.seqC tfine rfl trivial ?_
  refine GO.emptySliceS tfine rfl rfl rfl rfl rfl rfl rfl fun A0 hA0 => ?_
  refine GO.more tfine rfl trivial ?_
  refine GO.appendNew el apT35 rfl rfl rfl rfl rfl rfl rfl rfl (RowOf.ro rfl) h2 h1 (by unfold maxLen; omega) (by omega) (fun h0 => ?_) fun h0 c' hc' => ?_
  · refine GO.fin tfine rfl trivial ?_
    exact G.ret (endAns.ret ⟨⟨_, rfl, h0.symm, h0, hA0⟩, trivial⟩)
  · refine GO.fin tfine rfl trivial ?_
    exact G.ret (endAns.ret ⟨⟨_, rfl, hc', rfl, rfl, rfl, by omega, fun i hi => by rw [Nat.zero_add]⟩, trivial⟩)
/-! ### Faults -/
def badE (n m : Int) (e : EI) : Bool := ((decide (e.1 < 0) || decide (e.1 ≥ n)) || decide (e.2 < 0)) || decide (e.2 ≥ m)
def notBeh (e p : EI) : Bool := decide (e.1 < p.1) || ((e.1 == p.1) && decide (e.2 ≤ p.2))
def behB (e p : EI) : Bool := decide (e.1 > p.1) || ((e.1 == p.1) && decide (e.2 > p.2))
theorem behB_not (e p : EI) : (!behB e p) = notBeh e p := by
  rw [Bool.eq_iff_iff]
  simp [behB, notBeh]
  omega
def faultE (n m : Int) (l : List EI) (k : Nat) : Int := if badE n m (l.getD k (0, 0)) = true then 2 else if (decide (0 < k) && notBeh (l.getD k (0, 0)) (l.getD (k - 1) (0, 0))) = true then 5 else 0
def firstF (f : Nat → Int) : Nat → Nat → Int
  | _, 0 => 0
  | k, c + 1 => if f k ≠ 0 then f k else firstF f (k + 1) c
def rangeB (n m : Int) : Bool := ((decide (n < 0) || decide (n > 24)) || decide (m < 0)) || decide (m > 24)
def checkM (n m : Int) (l : List EI) : Int := if rangeB n m = true then 2 else if decide ((l.length : Int) > 256) = true then 8 else firstF (faultE n m l) 0 l.length
theorem firstF_step (f : Nat → Int) {k n : Nat} (h : k < n) : firstF f k (n - k) = if f k ≠ 0 then f k else firstF f (k + 1) (n - (k + 1)) := by
  have : n - k = (n - (k + 1)) + 1 := by omega
  rw [this, firstF]
theorem firstF_zero {f : Nat → Int} : ∀ {c k : Nat}, firstF f k c = 0 → ∀ i, k ≤ i → i < k + c → f i = 0
  | 0, k, _, i, h1, h2 => by omega
  | c + 1, k, h, i, h1, h2 => by
    rw [firstF] at h
    split at h
    · rename_i hk; exact absurd h hk
    · rename_i hk
      by_cases e : i = k
      · subst e
        by_cases h0 : f i = 0
        · exact h0
        · exact absurd h0 hk
      · exact firstF_zero h i (by omega) (by omega)
theorem check_any (n m : Int) (A : Option Addr) (c : Nat) (l : List EI) (w : World) (hl : RdRow w A l.length 2 (elE l)) (hm : l.length ≤ 1000000) :
    Calls Try.prog 51 #[I n, I m, .slice A l.length c] w fun e w' => e = .returned (I (checkM n m l)) ∧ Below w.heap.size w w' := by
  refine enterPlain tfine Try.func51 rfl 93 Try.ntmps51 [.c (.k (I n)), .c (.k (I m)), .c (.inp 1000 A l.length c)] [⟨1000, A, 2, l.length, elE l⟩] rfl rfl ⟨hl, trivial⟩ ⟨trivial, trivial, .inl ⟨rfl, rfl, rfl⟩, trivial⟩ ?_
  refine G.seqR tfine rfl trivial ?_
  refine G.seq (G.block ?_)
  refine G.seqR tfine rfl ?_ ?_
  · first | trivial | (simp [AllP, condB]; done) | (simp only [AllP]; and_intros <;> first | trivial | decide | omega) | (simp [AllP, condB]; intros; and_intros <;> first | assumption | omega) | (simp [AllP, condB]; intros; simp_all; done) | (simp [AllP, condB]; intros; simp_all; omega) | (simp [AllP, condB]; omega)
  refine G.cond (b := rangeB n m) rfl (fun h => ?_) (fun h => ?_)
  · refine G.seqR tfine rfl trivial ?_
    refine G.ret (endK.ret rfl ?_)
    rw [checkM, if_pos h]
  refine G.seqR tfine rfl trivial ?_
  refine G.cond (b := decide ((l.length : Int) > 256)) rfl (fun h2 => ?_) (fun h2 => ?_)
  · refine G.seqR tfine rfl trivial ?_
    refine G.ret (endK.ret rfl ?_)
    rw [checkM, if_neg (fne h), if_pos h2]
  have hch : checkM n m l = firstF (faultE n m l) 0 l.length := by rw [checkM, if_neg (fne h), if_neg (fne h2)]
  rw [hch]
  refine G.skip ?_
  refine G.seq (G.seqR tfine rfl trivial ?_)
  refine G.block (G.loop (fun z : Nat => St.of [(0, .v (.c (.k (I n)))), (1, .v (.c (.k (I m)))), (2, .v (.c (.inp 1000 A l.length c))), (28, .v (.c (.inp 1000 A l.length c))), (29, .v (.c (.k (I l.length)))), (30, .v (.c (.k (I z))))] [(1000, .ro 2 l.length (elE l))])
    (fun z => z ≤ l.length ∧ firstF (faultE n m l) 0 l.length = firstF (faultE n m l) z (l.length - z)) (fun z => l.length - z) 0 ⟨Nat.zero_le _, rfl⟩ (St.le_of rfl ⟨⟨_, rfl, Blk.le_refl _⟩, trivial⟩ ⟨rfl, rfl, rfl, rfl, rfl, rfl, trivial⟩) ?_)
  rintro k ⟨hk, he⟩
  refine G.seqR tfine rfl trivial ?_
  refine G.seq (G.cond (b := decide ((k : Int) < (l.length : Int))) rfl (fun h => ?_) (fun h => ?_))
  rotate_left
  · have h := of_decide_eq_false h
    have : k = l.length := by omega
    subst this
    refine G.exit ?_
    refine G.seqR tfine rfl trivial ?_
    refine G.ret (endK.ret rfl ?_)
    rw [he, Nat.sub_self]
    rfl
  have h := of_decide_eq_true h
  have hlt : k < l.length := by omega
  rw [firstF_step _ hlt] at he
  refine G.skip ?_
  refine G.seq (G.block ?_)
  refine G.seqR tfine rfl ⟨by simpa using hlt, by omega, by omega, trivial⟩ ?_
  rw [Int.toNat_natCast]
  refine G.block ?_
  refine G.seqR tfine rfl ?_ ?_
  · first | trivial | (simp [AllP, condB]; done) | (simp only [AllP]; and_intros <;> first | trivial | decide | omega) | (simp [AllP, condB]; intros; and_intros <;> first | assumption | omega) | (simp [AllP, condB]; intros; simp_all; done) | (simp [AllP, condB]; intros; simp_all; omega) | (simp [AllP, condB]; omega)
  refine G.cond (b := badE n m (l.getD k (0, 0))) rfl (fun h2 => ?_) (fun h2 => ?_)
  · refine G.seqR tfine rfl trivial ?_
    refine G.ret (endK.ret rfl ?_)
    have : faultE n m l k = 2 := by rw [faultE, if_pos h2]
    rw [he, this]
    rfl
  have e0 : (IntKind.i64.wrap ((k : Int) - 1)).toNat = k - 1 := by
    rw [IntWalk.i64_in _ (by omega)]; omega
  refine G.seqD tfine hmix [0, 1, 3, 7, 15, 7, 7, 71, 231, 487, 999, 2047, 4095, 8191, 16383, 8191, 8191, 73727, 237567, 499711, 1023999, 2097151, 4194303, 8388607, 16777215, 8388607, 8388607, 75497471, 243269631, 511705087, 1048575999, 2147483647, 4294967295, 8589934591, 17179869183, 34359738367] [] rfl rfl rfl rfl ?_ ?_
  · rw [e0, IntWalk.i64_in _ (by omega)]
    simp [AllP, condB]
    omega
  rw [e0]
  refine G.cond (b := decide ((k : Int) > 0) && (decide ((l.getD k (0, 0)).1 < (l.getD (k - 1) (0, 0)).1) || (((l.getD k (0, 0)).1 == (l.getD (k - 1) (0, 0)).1) && decide ((l.getD k (0, 0)).2 ≤ (l.getD (k - 1) (0, 0)).2)))) rfl (fun h3 => ?_) (fun h3 => ?_)
  · refine G.seqR tfine rfl trivial ?_
    refine G.ret (endK.ret rfl ?_)
    have h3' : (decide (0 < k) && notBeh (l.getD k (0, 0)) (l.getD (k - 1) (0, 0))) = true := by
      rw [← h3, notBeh]; congr 1; simp
    have : faultE n m l k = 5 := by rw [faultE, if_neg (fne h2), if_pos h3']
    rw [he, this]
    rfl
  · have h3' : (decide (0 < k) && notBeh (l.getD k (0, 0)) (l.getD (k - 1) (0, 0))) = false := by
      rw [← h3, notBeh]; congr 1; simp
    have : faultE n m l k = 0 := by rw [faultE, if_neg (fne h2), if_neg (fne h3')]
    rw [this, if_neg (by simp)] at he
    refine G.skip ?_
    refine G.reg tfine rfl trivial ?_
    rw [IntWalk.i64_in ((k : Int) + 1) (by omega)]
    exact ⟨k + 1, ⟨by omega, he⟩, (by show l.length - (k + 1) < l.length - k; omega), St.le_of rfl ⟨⟨_, rfl, Blk.le_refl _⟩, trivial⟩ ⟨rfl, rfl, rfl, rfl, rfl, by simp [up, I], trivial⟩⟩
theorem behind_any (a b c d : Int) (w : World) : Calls Try.prog 70 #[.agg #[I a, I b], .agg #[I c, I d]] w fun e w' => e = .returned (.bool (behB (a, b) (c, d))) ∧ Below w.heap.size w w' := by
  refine enterPlain tfine Try.func70 rfl 24 Try.ntmps70 [.agg [.k (I a), .k (I b)], .agg [.k (I c), .k (I d)]] [] rfl rfl trivial ⟨⟨trivial, trivial, trivial⟩, ⟨trivial, trivial, trivial⟩, trivial⟩ ?_
  refine G.seqR tfine rfl trivial ?_
  refine G.seqR tfine rfl ?_ ?_
  · first | trivial | (simp [AllP, condB]; done) | (simp only [AllP]; and_intros <;> first | trivial | decide | omega) | (simp [AllP, condB]; intros; and_intros <;> first | assumption | omega) | (simp [AllP, condB]; intros; simp_all; done) | (simp [AllP, condB]; intros; simp_all; omega) | (simp [AllP, condB]; omega)
  exact G.ret (endK.ret rfl rfl)
theorem refCheck_any (n m : Int) (A : Option Addr) (c : Nat) (l : List EI) (w : World) (hl : RdRow w A l.length 2 (elE l)) (hm : l.length ≤ 1000000) :
    Calls Try.prog 63 #[I n, I m, .slice A l.length c] w fun e w' => e = .returned (I (checkM n m l)) ∧ Below w.heap.size w w' := by
  refine enterPlain tfine Try.func63 rfl 78 Try.ntmps63 [.c (.k (I n)), .c (.k (I m)), .c (.inp 1000 A l.length c)] [⟨1000, A, 2, l.length, elE l⟩] rfl rfl ⟨hl, trivial⟩ ⟨trivial, trivial, .inl ⟨rfl, rfl, rfl⟩, trivial⟩ ?_
  refine G.seqR tfine rfl trivial ?_
  refine G.seq ?_
  refine G.seqR tfine rfl ?_ ?_
  · first | trivial | (simp [AllP, condB]; done) | (simp only [AllP]; and_intros <;> first | trivial | decide | omega) | (simp [AllP, condB]; intros; and_intros <;> first | assumption | omega) | (simp [AllP, condB]; intros; simp_all; done) | (simp [AllP, condB]; intros; simp_all; omega) | (simp [AllP, condB]; omega)
  refine G.cond (b := rangeB n m) rfl (fun h => ?_) (fun h => ?_)
  · refine G.seqR tfine rfl trivial ?_
    refine G.ret (endK.ret rfl ?_)
    rw [checkM, if_pos h]
  refine G.skip ?_
  refine G.seq ?_
  refine G.seqR tfine rfl trivial ?_
  refine G.cond (b := decide ((l.length : Int) > 256)) rfl (fun h2 => ?_) (fun h2 => ?_)
  · refine G.seqR tfine rfl trivial ?_
    refine G.ret (endK.ret rfl ?_)
    rw [checkM, if_neg (fne h), if_pos h2]
  have hch : checkM n m l = firstF (faultE n m l) 0 l.length := by rw [checkM, if_neg (fne h), if_neg (fne h2)]
  rw [hch]
  refine G.skip ?_
  refine G.seq (G.seqR tfine rfl trivial ?_)
  refine G.block (G.loop (fun z : Nat => St.of [(0, .v (.c (.k (I n)))), (1, .v (.c (.k (I m)))), (2, .v (.c (.inp 1000 A l.length c))), (7, .v (.c (.k (I z))))] [(1000, .ro 2 l.length (elE l))])
    (fun z => z ≤ l.length ∧ firstF (faultE n m l) 0 l.length = firstF (faultE n m l) z (l.length - z)) (fun z => l.length - z) 0 ⟨Nat.zero_le _, rfl⟩ (St.le_of rfl ⟨⟨_, rfl, Blk.le_refl _⟩, trivial⟩ ⟨rfl, rfl, rfl, rfl, trivial⟩) ?_)
  rintro k ⟨hk, he⟩
  refine G.seq (G.seqR tfine rfl trivial ?_)
  refine G.cond (b := decide ((k : Int) < (l.length : Int))) rfl (fun h => ?_) (fun h => ?_)
  rotate_left
  · have h := of_decide_eq_false h
    have : k = l.length := by omega
    subst this
    refine G.exit ?_
    refine G.seqR tfine rfl trivial ?_
    refine G.ret (endK.ret rfl ?_)
    rw [he, Nat.sub_self]
    rfl
  have h := of_decide_eq_true h
  have hlt : k < l.length := by omega
  rw [firstF_step _ hlt] at he
  refine G.skip ?_
  refine G.seq (G.block ?_)
  refine G.seq ?_
  refine G.seqR tfine rfl ?_ ?_
  · simp [AllP, condB]
    omega
  rw [Int.toNat_natCast]
  refine G.cond (b := badE n m (l.getD k (0, 0))) rfl (fun h2 => ?_) (fun h2 => ?_)
  · refine G.seqR tfine rfl trivial ?_
    refine G.ret (endK.ret rfl ?_)
    have : faultE n m l k = 2 := by rw [faultE, if_pos h2]
    rw [he, this]
    rfl
  refine G.skip ?_
  have e0 : (IntKind.i64.wrap ((k : Int) - 1)).toNat = k - 1 := by
    rw [IntWalk.i64_in _ (by omega)]; omega
  refine G.seqDraw hmix [0, 1, 3, 7, 7, 31, 63, 7, 7, 263, 903, 1927, 4095, 8191, 16383] [] rfl rfl rfl ?_
  refine GD.more tfine 0 rfl rfl ?_ ?_
  · rw [e0, IntWalk.i64_in _ (by omega)]
    simp [AllP, condB]
    omega
  rw [e0, Int.toNat_natCast]
  refine GD.callGuard (.bool (behB (l.getD k (0, 0)) (l.getD (k - 1) (0, 0)))) 12 rfl rfl rfl rfl (by first | exact trivial | exact ⟨id, trivial⟩ | exact ⟨id, id, trivial⟩ | exact ⟨id, id, id, trivial⟩ | exact ⟨id, id, id, id, trivial⟩) rfl rfl (fun args w => Try.call70 args w) rfl (fun _ m' hle ρ w hs hok => behind_any _ _ _ _ w) ?_
  refine GD.fin tfine 13 rfl rfl ?_ ?_
  · first | trivial | (simp [AllP, condB]; done) | (simp only [AllP]; and_intros <;> first | trivial | decide | omega) | (simp [AllP, condB]; intros; and_intros <;> first | assumption | omega) | (simp [AllP, condB]; intros; simp_all; done) | (simp [AllP, condB]; intros; simp_all; omega) | (simp [AllP, condB]; omega)
  refine G.cond (b := decide ((k : Int) > 0) && !behB (l.getD k (0, 0)) (l.getD (k - 1) (0, 0))) rfl (fun h3 => ?_) (fun h3 => ?_)
  · refine G.seqR tfine rfl trivial ?_
    refine G.ret (endK.ret rfl ?_)
    have h3' : (decide (0 < k) && notBeh (l.getD k (0, 0)) (l.getD (k - 1) (0, 0))) = true := by
      rw [← h3, behB_not]; congr 1; simp
    have : faultE n m l k = 5 := by rw [faultE, if_neg (fne h2), if_pos h3']
    rw [he, this]
    rfl
  · have h3' : (decide (0 < k) && notBeh (l.getD k (0, 0)) (l.getD (k - 1) (0, 0))) = false := by
      rw [← h3, behB_not]; congr 1; simp
    have : faultE n m l k = 0 := by rw [faultE, if_neg (fne h2), if_neg (fne h3')]
    rw [this, if_neg (by simp)] at he
    refine G.skip ?_
    refine G.reg tfine rfl trivial ?_
    rw [IntWalk.i64_in ((k : Int) + 1) (by omega)]
    exact ⟨k + 1, ⟨by omega, he⟩, (by show l.length - (k + 1) < l.length - k; omega), St.le_of rfl ⟨⟨_, rfl, Blk.le_refl _⟩, trivial⟩ ⟨rfl, rfl, rfl, by simp [up, I], trivial⟩⟩
end Go.Proofs.Ytpoalimbjeehkaa
/- Chapter 37: Size, Lack and Match. -/
set_option linter.unusedVariables false
set_option linter.unusedSimpArgs false
set_option maxRecDepth 8000
set_option maxHeartbeats 1000000
namespace Go.Proofs.Ytpoalimbjeehkaa
open Go.Sx Go.RowKit Mt
def toEg (l : List EI) : List Eg := l.map fun e => (e.1.toNat, e.2.toNat)
theorem toEg_cast (L : List Eg) : toEg (castL L) = L := by
  simp only [toEg, castL, List.map_map]
  have : (fun e : EI => (e.1.toNat, e.2.toNat)) ∘ (fun e : Eg => ((e.1 : Int), (e.2 : Int))) = id := by
    funext e
    simp
  rw [this, List.map_id]
/-- One edge comes before another. -/
def lexlt (e f : Eg) : Prop := e.1 < f.1 ∨ e.1 = f.1 ∧ e.2 < f.2
theorem lexlt.trans {a b c : Eg} (h : lexlt a b) (h2 : lexlt b c) : lexlt a c := by unfold lexlt at *; omega
/-- What right edges are. -/
structure Okay (n m : Int) (l : List EI) (N M : Nat) (L : List Eg) : Prop where
  hn : n = (N : Int)
  hm : m = (M : Int)
  hN : N ≤ 24
  hM : M ≤ 24
  hl : l = castL L
  len : L.length ≤ 256
  mem : ∀ e ∈ L, e.1 < N ∧ e.2 < M
  up : L.Pairwise lexlt
theorem adj_pairwise {L : List Eg} (h : ∀ k, 0 < k → k < L.length → lexlt (L.getD (k - 1) (0, 0)) (L.getD k (0, 0))) : L.Pairwise lexlt := by
  induction L with
  | nil => exact List.Pairwise.nil
  | cons a r ih =>
    have ih := ih fun k h1 h2 => by
      have := h (k + 1) (by omega) (by simp; omega)
      simp only [Nat.add_sub_cancel] at this
      obtain ⟨k, rfl⟩ : ∃ j, k = j + 1 := ⟨k - 1, by omega⟩
      simpa using this
    refine List.Pairwise.cons (fun b hb => ?_) ih
    cases r with
    | nil => cases hb
    | cons c r =>
      have h1 : lexlt a c := by simpa using h 1 (by omega) (by simp)
      cases hb with
      | head => exact h1
      | tail _ hb => exact h1.trans ((List.pairwise_cons.1 ih).1 b hb)
theorem pairwise_adj {L : List Eg} (h : L.Pairwise lexlt) (k : Nat) (h0 : 0 < k) (h1 : k < L.length) : lexlt (L.getD (k - 1) (0, 0)) (L.getD k (0, 0)) := by
  have := List.pairwise_iff_getElem.1 h (k - 1) k (by omega) h1 (by omega)
  rw [List.getD_eq_getElem?_getD, List.getD_eq_getElem?_getD, List.getElem?_eq_getElem h1, List.getElem?_eq_getElem (by omega)]
  exact this
theorem getD_cast (L : List Eg) (k : Nat) : (castL L).getD k (0, 0) = (((L.getD k (0, 0)).1 : Int), ((L.getD k (0, 0)).2 : Int)) := by
  simp only [castL, List.getD_eq_getElem?_getD, List.getElem?_map]
  cases L[k]? <;> rfl
theorem check_ok {n m : Int} {l : List EI} (h : checkM n m l = 0) : Okay n m l n.toNat m.toNat (toEg l) := by
  unfold checkM at h
  split at h
  · cases h
  split at h
  · cases h
  rename_i h1 h2
  simp [rangeB] at h1
  simp at h2
  have hz := firstF_zero h
  have hbad : ∀ k, k < l.length → badE n m (l.getD k (0, 0)) = false ∧ (decide (0 < k) && notBeh (l.getD k (0, 0)) (l.getD (k - 1) (0, 0))) = false := by
    intro k hk
    have := hz k (Nat.zero_le _) (by omega)
    unfold faultE at this
    split at this
    · cases this
    split at this
    · cases this
    · rename_i a b
      exact ⟨by simpa using a, by simpa using b⟩
  have hrng : ∀ e ∈ l, 0 ≤ e.1 ∧ e.1 < n ∧ 0 ≤ e.2 ∧ e.2 < m := by
    intro e he
    obtain ⟨k, hk, rfl⟩ := List.mem_iff_getElem.1 he
    have := (hbad k hk).1
    rw [List.getD_eq_getElem?_getD, List.getElem?_eq_getElem hk] at this
    simp [badE] at this
    omega
  have hcast : l = castL (toEg l) := by
    simp only [castL, toEg, List.map_map]
    have : l.map ((fun e : Eg => ((e.1 : Int), (e.2 : Int))) ∘ fun e : EI => (e.1.toNat, e.2.toNat)) = l.map id := List.map_congr_left fun e he => by
      have := hrng e he
      simp only [Function.comp, id]
      rw [Int.toNat_of_nonneg this.1, Int.toNat_of_nonneg this.2.2.1]
    rw [this, List.map_id]
  refine ⟨by omega, by omega, by omega, by omega, hcast, by simp [toEg]; omega, fun e he => ?_, adj_pairwise fun k h0 hk => ?_⟩
  · obtain ⟨x, hx, rfl⟩ := List.mem_map.1 he
    have := hrng x hx
    simp only
    omega
  · have hk' : k < l.length := by simpa [toEg] using hk
    have := (hbad k hk').2
    rw [hcast, getD_cast, getD_cast] at this
    generalize (toEg l).getD k (0, 0) = x at this ⊢
    generalize (toEg l).getD (k - 1) (0, 0) = y at this ⊢
    simp [notBeh, h0] at this
    unfold lexlt
    omega
theorem ok_check {n m : Int} {l : List EI} {N M : Nat} {L : List Eg} (h : Okay n m l N M L) : checkM n m l = 0 := by
  have h1 : rangeB n m = false := by
    have := h.hn; have := h.hm; have := h.hN; have := h.hM
    simp [rangeB]
    omega
  have h2 : decide ((l.length : Int) > 256) = false := by
    have := h.len
    rw [h.hl, castL_len]
    simp
    omega
  rw [checkM, if_neg (fne h1), if_neg (fne h2)]
  have hz : ∀ k, k < l.length → faultE n m l k = 0 := by
    intro k hk
    have hk' : k < L.length := by rw [h.hl, castL_len] at hk; exact hk
    have hmem : L.getD k (0, 0) ∈ L := by rw [List.getD_eq_getElem?_getD, List.getElem?_eq_getElem hk']; exact List.getElem_mem hk'
    have h3 := h.mem _ hmem
    unfold faultE
    rw [h.hl, getD_cast, if_neg, if_neg]
    · cases k with
      | zero => simp
      | succ k =>
        have := pairwise_adj h.up (k + 1) (by omega) hk'
        rw [getD_cast]
        generalize L.getD (k + 1) (0, 0) = x at this ⊢
        generalize L.getD (k + 1 - 1) (0, 0) = y at this ⊢
        unfold lexlt at this
        simp [notBeh]
        omega
    · rw [h.hn, h.hm]
      generalize L.getD k (0, 0) = x at h3 ⊢
      simp [badE]
      omega
  have key : ∀ c k, k + c = l.length → firstF (faultE n m l) k c = 0 := by
    intro c
    induction c with
    | zero => intro k _; rfl
    | succ c ih =>
      intro k hk
      rw [firstF, hz k (by omega), if_neg (by simp)]
      exact ih (k + 1) (by omega)
  exact key _ 0 (by omega)
theorem Okay.best {n m : Int} {l : List EI} {N M : Nat} {L : List Eg} (h : Okay n m l N M L) : Best N M L := ⟨h.hN, h.hM, h.mem⟩
theorem Okay.lt24 {n m : Int} {l : List EI} {N M : Nat} {L : List Eg} (h : Okay n m l N M L) : ∀ e ∈ L, e.1 < 24 ∧ e.2 < 24 := fun e he => by
  have := h.mem e he; have := h.hN; have := h.hM; omega
theorem Okay.row {n m : Int} {l : List EI} {N M : Nat} {L : List Eg} (h : Okay n m l N M L) {w : World} {A : Option Addr} (hl : RdRow w A l.length 2 (elE l)) : RdRow w A L.length 2 (elG L) ∧ l.length = L.length := by
  have e : l.length = L.length := by rw [h.hl, castL_len]
  rw [e] at hl
  exact ⟨hl.congr fun i hi => by rw [h.hl, elE_cast], e⟩
def msOf (n : Int) (l : List EI) : Ms := matched n.toNat (toEg l)
def rcOf (n : Int) (l : List EI) : Rc := reached n.toNat (toEg l) (msOf n l)
theorem matchedI_any (n m : Int) (A : Option Addr) (c : Nat) (l : List EI) (w : World) (hl : RdRow w A l.length 2 (elE l)) (h : checkM n m l = 0) :
    Calls Try.prog 60 #[I n, .slice A l.length c] w fun e w' => e = .returned (.tuple #[arrL (msOf n l).left, arrL (msOf n l).right]) ∧ Below w.heap.size w w' := by
  have ok := check_ok h
  obtain ⟨h1, h2⟩ := ok.row hl
  have := matched_any (toEg l) A c n.toNat ok.lt24 (by have := ok.len; omega) ok.hN w h1
  rw [← h2, ← ok.hn] at this
  exact this
theorem reachedI_any (n m : Int) (A : Option Addr) (c : Nat) (l : List EI) (w : World) (hl : RdRow w A l.length 2 (elE l)) (h : checkM n m l = 0) :
    Calls Try.prog 61 #[I n, .slice A l.length c, arrL (msOf n l).left, arrL (msOf n l).right] w fun e w' => e = .returned (.tuple #[arrB (rcOf n l).a, arrB (rcOf n l).b]) ∧ Below w.heap.size w w' := by
  have ok := check_ok h
  obtain ⟨h1, h2⟩ := ok.row hl
  have := reached_any (toEg l) A c n.toNat (msOf n l) ok.lt24 (by have := ok.len; omega) ok.hN (matched_bd ok.lt24 _ ok.hN) w h1
  rw [← h2, ← ok.hn] at this
  exact this
def sizeA (n m : Int) (l : List EI) : Int × Int := if (checkM n m l != 0) = true then (0, 1) else ((sizeM (msOf n l) : Int), 0)
def lackA (n m : Int) (l : List EI) : List Nat × List Nat × Int := if (checkM n m l != 0) = true then ([], [], 1) else if ((sizeM (msOf n l) : Int) == n) = true then ([], [], 7) else (whereM (rcOf n l).a n.toNat true, whereM (rcOf n l).b m.toNat true, 0)
end Go.Proofs.Ytpoalimbjeehkaa
/- Chapter 37: Match. -/
set_option linter.unusedVariables false
set_option linter.unusedSimpArgs false
set_option maxRecDepth 8000
set_option maxHeartbeats 1000000
namespace Go.Proofs.Ytpoalimbjeehkaa
open Go.Sx Go.RowKit Mt
def pairsK (s : Ms) (k : Nat) : List Eg := ((List.range k).filter fun i => decide (s.left i > 0)).map fun i => (i, s.left i - 1)
theorem pairsK_all (s : Ms) : pairsK s 24 = pairsM s := rfl
theorem pairsK_succ (s : Ms) (k : Nat) : pairsK s (k + 1) = pairsK s k ++ (if s.left k > 0 then [(k, s.left k - 1)] else []) := by
  unfold pairsK
  rw [filter_succ, List.map_append]
  by_cases h : s.left k > 0 <;> simp [h]
theorem pairsK_len (s : Ms) (k : Nat) : (pairsK s k).length ≤ k := by
  unfold pairsK
  rw [List.length_map]
  have := List.length_filter_le (fun i => decide (s.left i > 0)) (List.range k)
  simpa using this
theorem getDG_app_lt {l r : List Eg} {i : Nat} (h : i < l.length) : (l ++ r).getD i (0, 0) = l.getD i (0, 0) := by
  rw [List.getD_eq_getElem?_getD, List.getD_eq_getElem?_getD, List.getElem?_append_left h]
theorem getDG_app_eq {l : List Eg} {x : Eg} : (l ++ [x]).getD l.length (0, 0) = x := by
  rw [List.getD_eq_getElem?_getD, List.getElem?_append_right (Nat.le_refl _), Nat.sub_self]
  rfl
def matchA (n m : Int) (l : List EI) : List Eg × List Nat × List Nat × Int := if (checkM n m l != 0) = true then ([], [], [], 1) else (pairsM (msOf n l), whereM (rcOf n l).a n.toNat false, whereM (rcOf n l).b m.toNat true, 0)
theorem Match_any (n m : Int) (A : Option Addr) (c : Nat) (l : List EI) (w : World) (hl : RdRow w A l.length 2 (elE l)) (hm : l.length ≤ 1000000) :
    Calls Try.prog 48 #[I n, I m, .slice A l.length c] w fun e w' => Ans w w' [.agg [.r (matchA n m l).1.length 2 (elG (matchA n m l).1), .r (matchA n m l).2.1.length 1 (elW (matchA n m l).2.1), .r (matchA n m l).2.2.1.length 1 (elW (matchA n m l).2.2.1)], .c (.p (I (matchA n m l).2.2.2))] e ∧ Below w.heap.size w w' := by
  refine enterAns tfine _ Try.func48 rfl 60 Try.ntmps48 [.c (.k (I n)), .c (.k (I m)), .c (.inp 1000 A l.length c)] [⟨1000, A, 2, l.length, elE l⟩] rfl rfl ⟨hl, trivial⟩ ⟨trivial, trivial, .inl ⟨rfl, rfl, rfl⟩, trivial⟩ ?_
  refine G.seqR tfine rfl trivial ?_
  refine G.seq ?_
  refine G.seqC tfine rfl trivial ?_
  refine GO.callPlain (v := I (checkM n m l)) rfl rfl rfl rfl (fun args w => Try.call51 args w) (fun ρ w hs hok => check_any n m A c l w (hs.row (cap := c) rfl (hok _ (List.mem_cons_of_mem _ (List.mem_cons_of_mem _ List.mem_cons_self)))) hm) ?_
  refine GO.fin tfine rfl trivial ?_
  refine G.cond (b := (checkM n m l != 0)) rfl (fun h => ?_) (fun h => ?_)
  · refine G.seqR tfine rfl trivial ?_
    rw [matchA, if_pos h]
    exact G.ret (endAns.ret ⟨⟨_, rfl, ⟨rfl, rfl, fun a h => by cases h⟩, ⟨rfl, rfl, fun a h => by cases h⟩, ⟨rfl, rfl, fun a h => by cases h⟩, trivial⟩, ⟨_, rfl, rfl⟩, trivial⟩)
  have h0 : checkM n m l = 0 := by simpa using h
  have ok := check_ok h0
  rw [matchA, if_neg (fne h)]
  refine G.skip ?_
  refine G.seqC tfine rfl trivial ?_
  refine GO.callPlain (v := .tuple #[arrL (msOf n l).left, arrL (msOf n l).right]) rfl rfl rfl rfl (fun args w => Try.call60 args w) (fun ρ w hs hok => matchedI_any n m A c l w (hs.row (cap := c) rfl (hok _ (List.mem_cons_of_mem _ List.mem_cons_self))) h0) ?_
  refine GO.fin tfine rfl trivial ?_
  refine G.seqC tfine rfl trivial ?_
  refine GO.callPlain (v := .tuple #[arrB (rcOf n l).a, arrB (rcOf n l).b]) rfl rfl rfl rfl (fun args w => Try.call61 args w) (fun ρ w hs hok => reachedI_any n m A c l w (hs.row (cap := c) rfl (hok _ (List.mem_cons_of_mem _ List.mem_cons_self))) h0) ?_
  refine GO.fin tfine rfl trivial ?_
  obtain ⟨wl, hwl⟩ : ∃ wl, wl = whereM (rcOf n l).a n.toNat false := ⟨_, rfl⟩
  obtain ⟨wr, hwr⟩ : ∃ wr, wr = whereM (rcOf n l).b m.toNat true := ⟨_, rfl⟩
  rw [← hwl, ← hwr]
  refine G.seqDraw hmix [0, 0, 3, 0, 0, 31, 63, 0, 255] [(2, 800), (2, 850), (5, 801), (5, 851), (8, 12)] rfl rfl rfl ?_
  refine GD.more tfine 0 rfl rfl trivial ?_
  refine GD.callAns [.c (.r wl.length 1 (elW wl))] [800] 2 rfl rfl rfl rfl rfl ⟨rfl, rfl, rfl, trivial⟩ rfl (fun args w => Try.call62 args w) (fun m1 hle ρ w hs hok => ?_) ?_
  · have := where_any (rcOf n l).a n.toNat false w
    rw [← ok.hn, ← hwl] at this
    exact this
  refine GD.more tfine 3 rfl rfl trivial ?_
  refine GD.callAns [.c (.r wr.length 1 (elW wr))] [801] 5 rfl rfl rfl rfl rfl ⟨rfl, rfl, rfl, trivial⟩ rfl (fun args w => Try.call62 args w) (fun m1 hle ρ w hs hok => ?_) ?_
  · have := where_any (rcOf n l).b m.toNat true w
    rw [← ok.hm, ← hwr] at this
    exact this
  refine GD.fin tfine 6 rfl rfl trivial ?_
  refine G.seq (G.seqR tfine rfl trivial ?_)
  obtain ⟨s, hs⟩ : ∃ s, s = msOf n l := ⟨_, rfl⟩
  rw [← hs]
  have hbd : Bd s := by rw [hs]; exact matched_bd ok.lt24 _ ok.hN
  refine G.block (G.loop (fun z : Nat × Nat => St.of [(6, .v (.c (.ptr 6 0 0 0))), (12, .v (.c (.ptr 12 0 0 0))), (42, .v (.agg ((a24 fun i => I (s.left i)).map .k))), (43, .v (.c (.k (I z.1))))]
      ((12, .var 47 [accV 56 2 (pairsK s z.1).length z.2, .row 800 wl.length w.heap.size, .row 801 wr.length w.heap.size]) :: (800, .ro 1 wl.length (elW wl)) :: (850, .ro 0 0 fun _ => []) :: (801, .ro 1 wr.length (elW wr)) :: (851, .ro 0 0 fun _ => []) :: (6, .var 47 [.k (.slice none 0 0), .k (.slice none 0 0), .k (.slice none 0 0)]) :: accMl 56 68 2 (pairsK s z.1).length z.2 (elG (pairsK s z.1))))
    (fun z => z.1 ≤ 24 ∧ (pairsK s z.1).length ≤ z.2) (fun z => 24 - z.1) (0, 0) ⟨Nat.zero_le _, Nat.le_refl _⟩ (St.le_of rfl ⟨⟨_, rfl, Blk.le_refl _⟩, ⟨_, rfl, Blk.le_refl _⟩, ⟨_, rfl, Blk.le_refl _⟩, ⟨_, rfl, Blk.le_refl _⟩, ⟨_, rfl, Blk.le_refl _⟩, ⟨_, rfl, Blk.le_refl _⟩, trivial⟩ ⟨rfl, rfl, rfl, rfl, trivial⟩) ?_)
  rintro ⟨k, cp⟩ ⟨hk, hcp⟩
  dsimp only at hk hcp ⊢
  obtain ⟨acc, hacc⟩ : ∃ acc, acc = pairsK s k := ⟨_, rfl⟩
  have hst := pairsK_succ s k
  have hal : acc.length ≤ k := by rw [hacc]; exact pairsK_len s k
  rw [← hacc] at hcp hst ⊢
  obtain ⟨na, hna⟩ : ∃ na, na = acc.length := ⟨_, rfl⟩
  rw [← hna] at hcp hal ⊢
  rcases na with _ | na
  · refine G.seqR tfine rfl trivial ?_
    refine G.seq (G.cond (b := decide ((k : Int) < 24)) rfl (fun h => ?_) (fun h => ?_))
    rotate_left
    · have h := of_decide_eq_false h
      have : k = 24 := by omega
      subst this
      refine G.exit ?_
      refine G.seqR tfine rfl trivial ?_
      rw [← pairsK_all, ← hacc, ← hna]
      exact G.ret (endAns.ret ⟨⟨_, rfl, ⟨rfl, rfl, fun a h => by cases h⟩, ⟨rfl, Nat.le_refl _, _, _, rfl, Nat.le_refl _, fun i hi => rfl⟩, ⟨rfl, Nat.le_refl _, _, _, rfl, Nat.le_refl _, fun i hi => rfl⟩, trivial⟩, ⟨_, rfl, rfl⟩, trivial⟩)
    have h := of_decide_eq_true h
    have hlt : k < 24 := by omega
    have h24 := hbd.l k
    refine G.skip ?_
    refine G.seq (G.block ?_)
    refine G.seq (G.region_lit ?_)
    refine GO.step tfine rfl trivial ?_
    refine GO.indexAt tfine (a24 fun i => I (s.left i)) k (I (s.left k)) rfl rfl rfl rfl rfl rfl rfl rfl rfl rfl rfl (a24_get _ hlt) hlt ?_
    refine GO.fin tfine rfl trivial ?_
    refine G.seqR tfine rfl trivial ?_
    refine G.cond (b := decide ((s.left k : Int) > 0)) rfl (fun h2 => ?_) (fun h2 => ?_)
    · have h2 := of_decide_eq_true h2
      refine G.regC tfine rfl trivial ?_
      rw [IntWalk.i64_in ((s.left k : Int) - 1) (by omega)]
      rw [if_pos (by omega)] at hst
      refine GO.appendAcc (n := 0) (c := cp) (el := elG acc) [I k, I ((s.left k : Int) - 1)] [(6, .v (.c (.ptr 6 0 0 0))), (12, .v (.c (.ptr 12 0 0 0))), (42, .v (.agg ((a24 fun i => I (s.left i)).map .k))), (43, .v (.c (.k (I k))))]
        [(12, .var 47 [.k (.slice none 0 0), .row 800 wl.length w.heap.size, .row 801 wr.length w.heap.size]), (800, .ro 1 wl.length (elW wl)), (850, .ro 0 0 fun _ => []), (801, .ro 1 wr.length (elW wr)), (851, .ro 0 0 fun _ => []), (6, .var 47 [.k (.slice none 0 0), .k (.slice none 0 0), .k (.slice none 0 0)])]
        apE rfl rfl rfl rfl rfl rfl (fun h => absurd h (Nat.lt_irrefl 0)) rfl rfl rfl (fun u hu => by simp at hu; rcases hu with rfl | rfl <;> rfl) (St.le_of rfl ⟨⟨_, rfl, Blk.le_refl _⟩, ⟨_, rfl, Blk.le_refl _⟩, ⟨_, rfl, Blk.le_refl _⟩, ⟨_, rfl, Blk.le_refl _⟩, ⟨_, rfl, Blk.le_refl _⟩, ⟨_, rfl, Blk.le_refl _⟩, trivial⟩ ⟨rfl, rfl, rfl, rfl, trivial⟩) (subM.fr ⟨rfl, nx rfl, rfl, nx rfl, rfl, nx rfl, rfl, nx rfl, rfl, nx rfl, rfl, nx rfl, trivial⟩) (fun k hk => rfl) (by unfold maxLen; omega) (by omega) fun c' hc' => ?_
      refine GO.fin tfine rfl trivial ?_
      refine G.reg tfine rfl trivial ?_
      rw [IntWalk.i64_in ((k : Int) + 1) (by omega)]
      have hl : (acc ++ [(k, s.left k - 1)]).length = 0 + 1 := by rw [List.length_append, ← hna]; rfl
      refine ⟨(k + 1, c'), ⟨by simp only; omega, by simp only [hst]; rw [hl]; exact hc'⟩, (by show 24 - (k + 1) < 24 - k; omega), ?_⟩
      simp only [hst]
      rw [hl]
      refine St.le_of rfl ⟨⟨_, rfl, Blk.le_refl _⟩, ⟨_, rfl, Blk.le_refl _⟩, ⟨_, rfl, Blk.le_refl _⟩, ⟨_, rfl, Blk.le_refl _⟩, ⟨_, rfl, Blk.le_refl _⟩, ⟨_, rfl, Blk.le_refl _⟩, ⟨_, rfl, rfl, rfl, Nat.le_refl _, fun i hi => ?_, Nat.le_refl _⟩, trivial⟩ ⟨rfl, rfl, rfl, by simp [up, I], trivial⟩
      have hi' : i < 0 + 1 := hi
      by_cases e : i = 0
      · subst e
        rw [elN_eq, hna]
        simp only [elG, getDG_app_eq]
        congr 2
        congr 1
        omega
      · rw [elN_lt (by omega)]
        simp only [elG]
        rw [getDG_app_lt (by omega)]
    · have h2 := of_decide_eq_false h2
      refine G.skip ?_
      refine G.reg tfine rfl trivial ?_
      rw [IntWalk.i64_in ((k : Int) + 1) (by omega)]
      rw [if_neg (by omega), List.append_nil] at hst
      refine ⟨(k + 1, cp), ⟨by simp only; omega, by simp only [hst]; rw [← hna]; exact hcp⟩, (by show 24 - (k + 1) < 24 - k; omega), ?_⟩
      simp only [hst]
      rw [← hna]
      exact St.le_of rfl ⟨⟨_, rfl, Blk.le_refl _⟩, ⟨_, rfl, Blk.le_refl _⟩, ⟨_, rfl, Blk.le_refl _⟩, ⟨_, rfl, Blk.le_refl _⟩, ⟨_, rfl, Blk.le_refl _⟩, ⟨_, rfl, Blk.le_refl _⟩, trivial⟩ ⟨rfl, rfl, rfl, by simp [up, I], trivial⟩
  · refine G.seqR tfine rfl trivial ?_
    refine G.seq (G.cond (b := decide ((k : Int) < 24)) rfl (fun h => ?_) (fun h => ?_))
    rotate_left
    · have h := of_decide_eq_false h
      have : k = 24 := by omega
      subst this
      refine G.exit ?_
      refine G.seqR tfine rfl trivial ?_
      rw [← pairsK_all, ← hacc, ← hna]
      exact G.ret (endAns.ret ⟨⟨_, rfl, ⟨hcp, rfl, rfl, rfl, (by omega), fun i hi => by rw [Nat.zero_add]⟩, ⟨rfl, Nat.le_refl _, _, _, rfl, Nat.le_refl _, fun i hi => rfl⟩, ⟨rfl, Nat.le_refl _, _, _, rfl, Nat.le_refl _, fun i hi => rfl⟩, trivial⟩, ⟨_, rfl, rfl⟩, trivial⟩)
    have h := of_decide_eq_true h
    have hlt : k < 24 := by omega
    have h24 := hbd.l k
    refine G.skip ?_
    refine G.seq (G.block ?_)
    refine G.seq (G.region_lit ?_)
    refine GO.step tfine rfl trivial ?_
    refine GO.indexAt tfine (a24 fun i => I (s.left i)) k (I (s.left k)) rfl rfl rfl rfl rfl rfl rfl rfl rfl rfl rfl (a24_get _ hlt) hlt ?_
    refine GO.fin tfine rfl trivial ?_
    refine G.seqR tfine rfl trivial ?_
    refine G.cond (b := decide ((s.left k : Int) > 0)) rfl (fun h2 => ?_) (fun h2 => ?_)
    · have h2 := of_decide_eq_true h2
      refine G.regC tfine rfl trivial ?_
      rw [IntWalk.i64_in ((s.left k : Int) - 1) (by omega)]
      rw [if_pos (by omega)] at hst
      refine GO.alias 56 57 [.slc 57 0 2 (na + 1) cp, .row 800 wl.length w.heap.size, .row 801 wr.length w.heap.size] rfl rfl rfl (z := 12) rfl ⟨.inr ⟨_, _, _, _, rfl, rfl⟩, .inl rfl, .inl rfl, trivial⟩ ?_
      refine GO.appendAcc (n := (na + 1)) (c := cp) (el := elG acc) [I k, I ((s.left k : Int) - 1)] [(6, .v (.c (.ptr 6 0 0 0))), (12, .v (.c (.ptr 12 0 0 0))), (42, .v (.agg ((a24 fun i => I (s.left i)).map .k))), (43, .v (.c (.k (I k))))]
        [(57, .ro 0 0 fun _ => []), (12, .var 47 [.slc 57 0 2 (na + 1) cp, .row 800 wl.length w.heap.size, .row 801 wr.length w.heap.size]), (800, .ro 1 wl.length (elW wl)), (850, .ro 0 0 fun _ => []), (801, .ro 1 wr.length (elW wr)), (851, .ro 0 0 fun _ => []), (6, .var 47 [.k (.slice none 0 0), .k (.slice none 0 0), .k (.slice none 0 0)])]
        apE rfl rfl rfl rfl rfl rfl (fun _ => rfl) rfl rfl rfl (fun u hu => by simp at hu; rcases hu with rfl | rfl <;> rfl) (St.le_of rfl ⟨⟨_, rfl, Blk.le_refl _⟩, ⟨_, rfl, Blk.le_refl _⟩, ⟨_, rfl, Blk.le_refl _⟩, ⟨_, rfl, Blk.le_refl _⟩, ⟨_, rfl, Blk.le_refl _⟩, ⟨_, rfl, Blk.le_refl _⟩, ⟨_, rfl, Blk.le_refl _⟩, trivial⟩ ⟨rfl, rfl, rfl, rfl, trivial⟩) (subM.fr ⟨rfl, nx rfl, rfl, nx rfl, rfl, nx rfl, rfl, nx rfl, rfl, nx rfl, rfl, nx rfl, rfl, nx rfl, trivial⟩) (fun k hk => rfl) (by unfold maxLen; omega) (by omega) fun c' hc' => ?_
      refine GO.fin tfine rfl trivial ?_
      refine G.reg tfine rfl trivial ?_
      rw [IntWalk.i64_in ((k : Int) + 1) (by omega)]
      have hl : (acc ++ [(k, s.left k - 1)]).length = (na + 1) + 1 := by rw [List.length_append, ← hna]; rfl
      refine ⟨(k + 1, c'), ⟨by simp only; omega, by simp only [hst]; rw [hl]; exact hc'⟩, (by show 24 - (k + 1) < 24 - k; omega), ?_⟩
      simp only [hst]
      rw [hl]
      refine St.le_of rfl ⟨⟨_, rfl, Blk.le_refl _⟩, ⟨_, rfl, Blk.le_refl _⟩, ⟨_, rfl, Blk.le_refl _⟩, ⟨_, rfl, Blk.le_refl _⟩, ⟨_, rfl, Blk.le_refl _⟩, ⟨_, rfl, Blk.le_refl _⟩, ⟨_, rfl, rfl, rfl, Nat.le_refl _, fun i hi => ?_, Nat.le_refl _⟩, trivial⟩ ⟨rfl, rfl, rfl, by simp [up, I], trivial⟩
      have hi' : i < (na + 1) + 1 := hi
      by_cases e : i = (na + 1)
      · subst e
        rw [elN_eq, hna]
        simp only [elG, getDG_app_eq]
        congr 2
        congr 1
        omega
      · rw [elN_lt (by omega)]
        simp only [elG]
        rw [getDG_app_lt (by omega)]
    · have h2 := of_decide_eq_false h2
      refine G.skip ?_
      refine G.reg tfine rfl trivial ?_
      rw [IntWalk.i64_in ((k : Int) + 1) (by omega)]
      rw [if_neg (by omega), List.append_nil] at hst
      refine ⟨(k + 1, cp), ⟨by simp only; omega, by simp only [hst]; rw [← hna]; exact hcp⟩, (by show 24 - (k + 1) < 24 - k; omega), ?_⟩
      simp only [hst]
      rw [← hna]
      exact St.le_of rfl ⟨⟨_, rfl, Blk.le_refl _⟩, ⟨_, rfl, Blk.le_refl _⟩, ⟨_, rfl, Blk.le_refl _⟩, ⟨_, rfl, Blk.le_refl _⟩, ⟨_, rfl, Blk.le_refl _⟩, ⟨_, rfl, Blk.le_refl _⟩, ⟨_, rfl, Blk.le_refl _⟩, trivial⟩ ⟨rfl, rfl, rfl, by simp [up, I], trivial⟩
end Go.Proofs.Ytpoalimbjeehkaa
/- Chapter 37: searches in lists, numbers that ascend. -/
set_option linter.unusedVariables false
set_option linter.unusedSimpArgs false
set_option maxRecDepth 8000
set_option maxHeartbeats 1000000
namespace Go.Proofs.Ytpoalimbjeehkaa
open Go.Sx Go.RowKit Mt
theorem cmpE : CmpT Try.prog 68 (Try.prog.fieldsOf 68) := ⟨by kernel_rfl, by kernel_rfl, by kernel_rfl, by kernel_rfl⟩
theorem any_getDE (q : EI → Bool) (l : List EI) : (List.range' 0 l.length).any (fun k => q (l.getD k (0, 0))) = l.any q := by
  rw [Bool.eq_iff_iff, List.any_eq_true, List.any_eq_true]
  constructor
  · rintro ⟨k, hk, h⟩
    have hk : k < l.length := by simp [List.mem_range'] at hk; omega
    rw [List.getD_eq_getElem?_getD, List.getElem?_eq_getElem hk] at h
    exact ⟨_, List.getElem_mem hk, h⟩
  · rintro ⟨e, he, h⟩
    obtain ⟨k, hk, rfl⟩ := List.mem_iff_getElem.1 he
    refine ⟨k, by simp [List.mem_range']; omega, ?_⟩
    rw [List.getD_eq_getElem?_getD, List.getElem?_eq_getElem hk]
    exact h
theorem index_any (x : Int) (A : Option Addr) (c : Nat) (l : List Int) (w : World) (hl : RdRow w A l.length 1 (elI l)) (hm : l.length ≤ 1000000) :
    Calls Try.prog 65 #[.slice A l.length c, I x] w fun e w' => e = .returned (I (firstI (fun k => x == l.getD k 0) 0 l.length)) ∧ Below w.heap.size w w' := by
  refine enterPlain tfine Try.func65 rfl 19 Try.ntmps65 [.c (.inp 1000 A l.length c), .c (.k (I x))] [⟨1000, A, 1, l.length, elI l⟩] rfl rfl ⟨hl, trivial⟩ ⟨.inl ⟨rfl, rfl, rfl⟩, trivial, trivial⟩ ?_
  refine G.seqR tfine rfl trivial ?_
  refine G.seq (G.seqR tfine rfl trivial ?_)
  refine G.block (G.loop (fun k : Nat => St.of [(0, .v (.c (.inp 1000 A l.length c))), (1, .v (.c (.k (I x)))), (7, .v (.c (.k (I l.length)))), (8, .v (.c (.k (I k))))] [(1000, .ro 1 l.length (elI l))])
    (fun k => k ≤ l.length ∧ firstI (fun k => x == l.getD k 0) 0 l.length = firstI (fun k => x == l.getD k 0) k (l.length - k)) (fun k => l.length - k) 0 ⟨by omega, by simp⟩ (St.le_of rfl ⟨⟨_, rfl, Blk.le_refl _⟩, trivial⟩ ⟨rfl, rfl, rfl, rfl, trivial⟩) ?_)
  rintro k ⟨hk, hfi⟩
  refine G.seqR tfine rfl trivial ?_
  refine G.seq (G.cond rfl (fun h => ?_) (fun h => ?_))
  rotate_left
  · have h := of_decide_eq_false h
    have : k = l.length := by omega
    subst this
    refine G.exit ?_
    refine G.seqR tfine rfl trivial ?_
    refine G.ret (endK.ret rfl ?_)
    rw [hfi]
    simp [firstI]
  have h := of_decide_eq_true h
  have hlt : k < l.length := by omega
  refine G.skip ?_
  refine G.seq (G.block ?_)
  refine G.seqR tfine rfl trivial ?_
  refine G.seqR tfine rfl ⟨by simpa using hlt, by omega, by omega, trivial⟩ ?_
  rw [Int.toNat_natCast]
  have hs : l.length - k = (l.length - (k + 1)) + 1 := by omega
  rw [hs, firstI] at hfi
  refine G.cond (b := (x == l.getD k 0)) rfl (fun h2 => ?_) (fun h2 => ?_)
  · refine G.seqR tfine rfl trivial ?_
    refine G.ret (endK.ret rfl ?_)
    rw [hfi, if_pos h2]
  · refine G.skip ?_
    refine G.reg tfine rfl trivial ?_
    rw [IntWalk.i64_in _ (by omega)]
    rw [if_neg (fne h2)] at hfi
    exact ⟨k + 1, ⟨by omega, hfi⟩, (by show l.length - (k + 1) < l.length - k; omega), St.le_of rfl ⟨⟨_, rfl, Blk.le_refl _⟩, trivial⟩ ⟨rfl, rfl, rfl, by simp [up, I], trivial⟩⟩
theorem contains_any (x : Int) (A : Option Addr) (c : Nat) (l : List Int) (w : World) (hl : RdRow w A l.length 1 (elI l)) (hm : l.length ≤ 1000000) :
    Calls Try.prog 53 #[.slice A l.length c, I x] w fun e w' => e = .returned (.bool (l.any fun y => x == y)) ∧ Below w.heap.size w w' := by
  rw [← any_getD (fun y => x == y), ← firstI_any]
  refine enterPlain tfine Try.func53 rfl 9 Try.ntmps53 [.c (.inp 1000 A l.length c), .c (.k (I x))] [⟨1000, A, 1, l.length, elI l⟩] rfl rfl ⟨hl, trivial⟩ ⟨.inl ⟨rfl, rfl, rfl⟩, trivial, trivial⟩ ?_
  refine G.seqR tfine rfl trivial ?_
  refine G.seqC tfine rfl trivial ?_
  refine GO.callPlain rfl rfl rfl rfl (fun args w => Try.call65 args w) (fun ρ w hs hok => index_any x A c l w (hs.row rfl (hok _ List.mem_cons_self)) hm) ?_
  refine GO.fin tfine rfl trivial ?_
  exact G.ret (endK.ret rfl rfl)
def eqE (a e : EI) : Bool := (a.1 == e.1) && (a.2 == e.2)
theorem indexE_any (a b : Int) (A : Option Addr) (c : Nat) (l : List EI) (w : World) (hl : RdRow w A l.length 2 (elE l)) (hm : l.length ≤ 1000000) :
    Calls Try.prog 72 #[.slice A l.length c, .agg #[I a, I b]] w fun e w' => e = .returned (I (firstI (fun k => eqE (a, b) (l.getD k (0, 0))) 0 l.length)) ∧ Below w.heap.size w w' := by
  refine enterPlain tfine Try.func72 rfl 19 Try.ntmps72 [.c (.inp 1000 A l.length c), .agg [.k (I a), .k (I b)]] [⟨1000, A, 2, l.length, elE l⟩] rfl rfl ⟨hl, trivial⟩ ⟨.inl ⟨rfl, rfl, rfl⟩, ⟨trivial, trivial, trivial⟩, trivial⟩ ?_
  refine G.seqR tfine rfl trivial ?_
  refine G.seq (G.seqR tfine rfl trivial ?_)
  refine G.block (G.loop (fun k : Nat => St.of [(0, .v (.c (.inp 1000 A l.length c))), (3, .v (.c (.ptr 3 0 0 0))), (7, .v (.c (.k (I l.length)))), (8, .v (.c (.k (I k))))] [(3, .var 68 [.k (I a), .k (I b)]), (1000, .ro 2 l.length (elE l))])
    (fun k => k ≤ l.length ∧ firstI (fun k => eqE (a, b) (l.getD k (0, 0))) 0 l.length = firstI (fun k => eqE (a, b) (l.getD k (0, 0))) k (l.length - k)) (fun k => l.length - k) 0 ⟨by omega, by simp⟩ (St.le_of rfl ⟨⟨_, rfl, Blk.le_refl _⟩, ⟨_, rfl, Blk.le_refl _⟩, trivial⟩ ⟨rfl, rfl, rfl, rfl, trivial⟩) ?_)
  rintro k ⟨hk, hfi⟩
  refine G.seqR tfine rfl trivial ?_
  refine G.seq (G.cond rfl (fun h => ?_) (fun h => ?_))
  rotate_left
  · have h := of_decide_eq_false h
    have : k = l.length := by omega
    subst this
    refine G.exit ?_
    refine G.seqR tfine rfl trivial ?_
    refine G.ret (endK.ret rfl ?_)
    rw [hfi]
    simp [firstI]
  have h := of_decide_eq_true h
  have hlt : k < l.length := by omega
  refine G.skip ?_
  refine G.seq (G.block ?_)
  refine G.seqR tfine rfl trivial ?_
  refine G.seqDraw hmix [0, 0, 0, 6, 14, 31] [] rfl rfl rfl ?_
  refine GD.more tfine 0 rfl rfl ⟨by simpa using hlt, by omega, by omega, trivial⟩ ?_
  rw [Int.toNat_natCast]
  refine GD.structEq false [I a, I b] [I (l.getD k (0, 0)).1, I (l.getD k (0, 0)).2] (eqE (a, b) (l.getD k (0, 0))) rfl cmpE 5 rfl rfl rfl rfl rfl rfl (by kernel_rfl) ?_
  refine GD.fin tfine 6 rfl rfl trivial ?_
  have hs : l.length - k = (l.length - (k + 1)) + 1 := by omega
  rw [hs, firstI] at hfi
  refine G.cond (b := eqE (a, b) (l.getD k (0, 0))) rfl (fun h2 => ?_) (fun h2 => ?_)
  · refine G.seqR tfine rfl trivial ?_
    refine G.ret (endK.ret rfl ?_)
    rw [hfi, if_pos h2]
  · refine G.skip ?_
    refine G.reg tfine rfl trivial ?_
    rw [IntWalk.i64_in _ (by omega)]
    rw [if_neg (fne h2)] at hfi
    exact ⟨k + 1, ⟨by omega, hfi⟩, (by show l.length - (k + 1) < l.length - k; omega), St.le_of rfl ⟨⟨_, rfl, Blk.le_refl _⟩, ⟨_, rfl, Blk.le_refl _⟩, trivial⟩ ⟨rfl, rfl, rfl, by simp [up, I], trivial⟩⟩
theorem containsE_any (a b : Int) (A : Option Addr) (c : Nat) (l : List EI) (w : World) (hl : RdRow w A l.length 2 (elE l)) (hm : l.length ≤ 1000000) :
    Calls Try.prog 66 #[.slice A l.length c, .agg #[I a, I b]] w fun e w' => e = .returned (.bool (l.any (eqE (a, b)))) ∧ Below w.heap.size w w' := by
  rw [← any_getDE (eqE (a, b)), ← firstI_any]
  refine enterPlain tfine Try.func66 rfl 9 Try.ntmps66 [.c (.inp 1000 A l.length c), .agg [.k (I a), .k (I b)]] [⟨1000, A, 2, l.length, elE l⟩] rfl rfl ⟨hl, trivial⟩ ⟨.inl ⟨rfl, rfl, rfl⟩, ⟨trivial, trivial, trivial⟩, trivial⟩ ?_
  refine G.seqR tfine rfl trivial ?_
  refine G.seqC tfine rfl trivial ?_
  refine GO.callPlain rfl rfl rfl rfl (fun args w => Try.call72 args w) (fun ρ w hs hok => indexE_any a b A c l w (hs.row rfl (hok _ List.mem_cons_self)) hm) ?_
  refine GO.fin tfine rfl trivial ?_
  exact G.ret (endK.ret rfl rfl)
theorem indexFuncE_any (f : FuncId) (caps : List Value) (q : EI → Bool) (hcf : ∀ args w, (callFunc f args).run Try.prog w = .ok (.enter f args) w) (A : Option Addr) (c : Nat) (l : List EI) (w : World)
    (hf : ∀ a b w1, Below w.heap.size w w1 → Calls Try.prog f (#[.agg #[I a, I b]] ++ caps.toArray) w1 fun e w' => e = .returned (.bool (q (a, b))) ∧ Below w1.heap.size w1 w') (hl : RdRow w A l.length 2 (elE l)) (hm : l.length ≤ 1000000) :
    Calls Try.prog 67 #[.slice A l.length c, .func (.func f) #[] caps.toArray] w fun e w' => e = .returned (I (firstI (fun k => q (l.getD k (0, 0))) 0 l.length)) ∧ Below w.heap.size w w' := by
  refine enterPlain tfine Try.func67 rfl 19 Try.ntmps67 [.c (.inp 1000 A l.length c), .c (.k (.func (.func f) #[] caps.toArray))] [⟨1000, A, 2, l.length, elE l⟩] rfl rfl ⟨hl, trivial⟩ ⟨.inl ⟨rfl, rfl, rfl⟩, trivial, trivial⟩ ?_
  refine G.seqR tfine rfl trivial ?_
  refine G.seq (G.seqR tfine rfl trivial ?_)
  refine G.block (G.loop (fun k : Nat => St.of [(0, .v (.c (.inp 1000 A l.length c))), (1, .v (.c (.k (.func (.func f) #[] caps.toArray)))), (7, .v (.c (.k (I l.length)))), (8, .v (.c (.k (I k))))] [(1000, .ro 2 l.length (elE l))])
    (fun k => k ≤ l.length ∧ firstI (fun k => q (l.getD k (0, 0))) 0 l.length = firstI (fun k => q (l.getD k (0, 0))) k (l.length - k)) (fun k => l.length - k) 0 ⟨by omega, by simp⟩ (St.le_of rfl ⟨⟨_, rfl, Blk.le_refl _⟩, trivial⟩ ⟨rfl, rfl, rfl, rfl, trivial⟩) ?_)
  rintro k ⟨hk, hfi⟩
  refine G.seqR tfine rfl trivial ?_
  refine G.seq (G.cond rfl (fun h => ?_) (fun h => ?_))
  rotate_left
  · have h := of_decide_eq_false h
    have : k = l.length := by omega
    subst this
    refine G.exit ?_
    refine G.seqR tfine rfl trivial ?_
    refine G.ret (endK.ret rfl ?_)
    rw [hfi]
    simp [firstI]
  have h := of_decide_eq_true h
  have hlt : k < l.length := by omega
  refine G.skip ?_
  refine G.seq (G.block ?_)
  refine G.seqR tfine rfl trivial ?_
  refine G.seqC tfine rfl ⟨by simpa using hlt, by omega, by omega, trivial⟩ ?_
  rw [Int.toNat_natCast]
  refine GO.callPlain (v := .bool (q (l.getD k (0, 0)))) rfl rfl rfl rfl hcf (fun ρ w1 hs hok => ?_) (GO.nil ?_)
  · have := hf (l.getD k (0, 0)).1 (l.getD k (0, 0)).2 w1 hs.fr.toBelow
    have e : (List.map (AV.conc ρ) [AV.agg [.k (I (l.getD k (0, 0)).1), .k (I (l.getD k (0, 0)).2)]] ++ List.map (Cap.conc ρ) (caps.map Cap.val)).toArray = #[.agg #[I (l.getD k (0, 0)).1, I (l.getD k (0, 0)).2]] ++ caps.toArray := by
      have : List.map (Cap.conc ρ) (caps.map Cap.val) = caps := by
        rw [List.map_map]
        have : Cap.conc ρ ∘ Cap.val = id := rfl
        rw [this, List.map_id]
      rw [this]
      simp [AV.conc, AC.conc]
    rw [← e] at this
    exact this
  have hs : l.length - k = (l.length - (k + 1)) + 1 := by omega
  rw [hs, firstI] at hfi
  refine G.cond (b := q (l.getD k (0, 0))) rfl (fun h2 => ?_) (fun h2 => ?_)
  · refine G.seqR tfine rfl trivial ?_
    refine G.ret (endK.ret rfl ?_)
    rw [hfi, if_pos h2]
  · refine G.skip ?_
    refine G.reg tfine rfl trivial ?_
    rw [IntWalk.i64_in _ (by omega)]
    rw [if_neg (fne h2)] at hfi
    exact ⟨k + 1, ⟨by omega, hfi⟩, (by show l.length - (k + 1) < l.length - k; omega), St.le_of rfl ⟨⟨_, rfl, Blk.le_refl _⟩, trivial⟩ ⟨rfl, rfl, rfl, by simp [up, I], trivial⟩⟩
theorem containsFuncE_any (f : FuncId) (caps : List Value) (q : EI → Bool) (hcf : ∀ args w, (callFunc f args).run Try.prog w = .ok (.enter f args) w) (A : Option Addr) (c : Nat) (l : List EI) (w : World)
    (hf : ∀ a b w1, Below w.heap.size w w1 → Calls Try.prog f (#[.agg #[I a, I b]] ++ caps.toArray) w1 fun e w' => e = .returned (.bool (q (a, b))) ∧ Below w1.heap.size w1 w') (hl : RdRow w A l.length 2 (elE l)) (hm : l.length ≤ 1000000) :
    Calls Try.prog 56 #[.slice A l.length c, .func (.func f) #[] caps.toArray] w fun e w' => e = .returned (.bool (l.any q)) ∧ Below w.heap.size w w' := by
  rw [← any_getDE q, ← firstI_any]
  refine enterPlain tfine Try.func56 rfl 9 Try.ntmps56 [.c (.inp 1000 A l.length c), .c (.k (.func (.func f) #[] caps.toArray))] [⟨1000, A, 2, l.length, elE l⟩] rfl rfl ⟨hl, trivial⟩ ⟨.inl ⟨rfl, rfl, rfl⟩, trivial, trivial⟩ ?_
  refine G.seqR tfine rfl trivial ?_
  refine G.seqC tfine rfl trivial ?_
  refine GO.callPlain rfl rfl rfl rfl (fun args w => Try.call67 args w) (fun ρ w1 hs hok => indexFuncE_any f caps q hcf A c l w1 (fun a b w2 hb => hf a b w2 (hs.fr.toBelow.trans (hb.mono hs.fr.size))) (hs.row rfl (hok _ List.mem_cons_self)) hm) ?_
  refine GO.fin tfine rfl trivial ?_
  exact G.ret (endK.ret rfl rfl)
/-! ### Ascending numbers -/
def badA (l : List Int) (most : Int) (k : Nat) : Bool := (decide (l.getD k 0 < 0) || decide (l.getD k 0 ≥ most)) || (decide ((k : Int) > 0) && decide (l.getD k 0 ≤ l.getD (k - 1) 0))
def ascB (l : List Int) (most : Int) : Bool := !((List.range' 0 l.length).any (badA l most))
theorem any_step {p : Nat → Bool} {k n : Nat} (h : k < n) : (List.range' k (n - k)).any p = (p k || (List.range' (k + 1) (n - (k + 1))).any p) := by
  have : n - k = (n - (k + 1)) + 1 := by omega
  rw [this, List.range'_succ, List.any_cons]
theorem ascends_any (most : Int) (A : Option Addr) (c : Nat) (l : List Int) (w : World) (hl : RdRow w A l.length 1 (elI l)) (hm : l.length ≤ 1000000) :
    Calls Try.prog 55 #[.slice A l.length c, I most] w fun e w' => e = .returned (.bool (ascB l most)) ∧ Below w.heap.size w w' := by
  refine enterPlain tfine Try.func55 rfl 35 Try.ntmps55 [.c (.inp 1000 A l.length c), .c (.k (I most))] [⟨1000, A, 1, l.length, elI l⟩] rfl rfl ⟨hl, trivial⟩ ⟨.inl ⟨rfl, rfl, rfl⟩, trivial, trivial⟩ ?_
  refine G.seqR tfine rfl trivial ?_
  refine G.seq (G.seqR tfine rfl trivial ?_)
  refine G.block (G.loop (fun k : Nat => St.of [(0, .v (.c (.inp 1000 A l.length c))), (1, .v (.c (.k (I most)))), (7, .v (.c (.inp 1000 A l.length c))), (8, .v (.c (.k (I l.length)))), (9, .v (.c (.k (I k))))] [(1000, .ro 1 l.length (elI l))])
    (fun k => k ≤ l.length ∧ ascB l most = !((List.range' k (l.length - k)).any (badA l most))) (fun k => l.length - k) 0 ⟨by omega, rfl⟩ (St.le_of rfl ⟨⟨_, rfl, Blk.le_refl _⟩, trivial⟩ ⟨rfl, rfl, rfl, rfl, rfl, trivial⟩) ?_)
  rintro k ⟨hk, hfi⟩
  refine G.seqR tfine rfl trivial ?_
  refine G.seq (G.cond rfl (fun h => ?_) (fun h => ?_))
  rotate_left
  · have h := of_decide_eq_false h
    have : k = l.length := by omega
    subst this
    refine G.exit ?_
    refine G.seqR tfine rfl trivial ?_
    refine G.ret (endK.ret rfl ?_)
    rw [hfi, Nat.sub_self]
    rfl
  have h := of_decide_eq_true h
  have hlt : k < l.length := by omega
  rw [any_step hlt] at hfi
  have e0 : (IntKind.i64.wrap ((k : Int) - 1)).toNat = k - 1 := by
    rw [IntWalk.i64_in _ (by omega)]; omega
  refine G.skip ?_
  refine G.seq (G.block ?_)
  refine G.seqR tfine rfl ⟨by simpa using hlt, by omega, by omega, trivial⟩ ?_
  rw [Int.toNat_natCast]
  refine G.seqR tfine rfl ?_ ?_
  · rw [e0, IntWalk.i64_in _ (by omega)]
    simp [AllP, condB]
    omega
  rw [e0]
  refine G.cond (b := badA l most k) rfl (fun h2 => ?_) (fun h2 => ?_)
  · refine G.seqR tfine rfl trivial ?_
    refine G.ret (endK.ret rfl ?_)
    rw [hfi, h2]
    rfl
  · rw [h2, Bool.false_or] at hfi
    refine G.skip ?_
    refine G.reg tfine rfl trivial ?_
    rw [IntWalk.i64_in ((k : Int) + 1) (by omega)]
    exact ⟨k + 1, ⟨by omega, hfi⟩, (by show l.length - (k + 1) < l.length - k; omega), St.le_of rfl ⟨⟨_, rfl, Blk.le_refl _⟩, trivial⟩ ⟨rfl, rfl, rfl, rfl, by simp [up, I], trivial⟩⟩
end Go.Proofs.Ytpoalimbjeehkaa
/- Chapter 37: pairs of a matching. -/
set_option linter.unusedVariables false
set_option linter.unusedSimpArgs false
set_option maxRecDepth 8000
set_option maxHeartbeats 1000000
namespace Go.Proofs.Ytpoalimbjeehkaa
open Go.Sx Go.RowKit Mt
def dupL (p : List EI) (k : Nat) (x : Int) : Bool := (List.range k).any fun i => (p.getD i (0, 0)).1 == x
def dupR (p : List EI) (k : Nat) (y : Int) : Bool := (List.range k).any fun i => (p.getD i (0, 0)).2 == y
theorem dupL_succ (p : List EI) (k : Nat) (x : Int) : dupL p (k + 1) x = (dupL p k x || ((p.getD k (0, 0)).1 == x)) := by simp [dupL, List.range_succ]
theorem dupR_succ (p : List EI) (k : Nat) (x : Int) : dupR p (k + 1) x = (dupR p k x || ((p.getD k (0, 0)).2 == x)) := by simp [dupR, List.range_succ]
def badP (l p : List EI) (k : Nat) : Bool := ((!(l.any (eqE (p.getD k (0, 0)))) || dupL p k (p.getD k (0, 0)).1) || dupR p k (p.getD k (0, 0)).2) || (decide ((k : Int) > 0) && decide ((p.getD k (0, 0)).1 < (p.getD (k - 1) (0, 0)).1))
def pairsB (l p : List EI) : Bool := !((List.range' 0 p.length).any (badP l p))
theorem pairs_any (A : Option Addr) (c : Nat) (l : List EI) (B : Option Addr) (d : Nat) (p : List EI) (w : World) (h24 : ∀ e ∈ l, (0 ≤ e.1 ∧ e.1 < 24) ∧ 0 ≤ e.2 ∧ e.2 < 24) (hl : RdRow w A l.length 2 (elE l)) (hp : RdRow w B p.length 2 (elE p)) (hm : l.length ≤ 1000000) (hm2 : p.length ≤ 1000000) :
    Calls Try.prog 54 #[.slice A l.length c, .slice B p.length d] w fun e w' => e = .returned (.bool (pairsB l p)) ∧ Below w.heap.size w w' := by
  refine enterPlain tfine Try.func54 rfl 54 Try.ntmps54 [.c (.inp 1000 A l.length c), .c (.inp 1001 B p.length d)] [⟨1000, A, 2, l.length, elE l⟩, ⟨1001, B, 2, p.length, elE p⟩] rfl rfl ⟨hl, hp, trivial⟩ ⟨.inl ⟨rfl, rfl, rfl⟩, .inr ⟨nx rfl, .inl ⟨rfl, rfl, rfl⟩⟩, trivial⟩ ?_
  refine G.seqR tfine rfl trivial ?_
  refine G.seqR tfine rfl trivial ?_
  refine G.seq (G.seqR tfine rfl trivial ?_)
  refine G.block (G.loop (fun k : Nat => St.of [(0, .v (.c (.inp 1000 A l.length c))), (1, .v (.c (.inp 1001 B p.length d))), (5, .v (.c (.ptr 5 0 1 0))), (6, .v (.c (.ptr 6 0 1 0))), (9, .v (.c (.inp 1001 B p.length d))), (10, .v (.c (.k (I p.length)))), (11, .v (.c (.k (I k))))]
      [(5, .arr 84 1 24 (elB fun j => dupL p k j) 0), (6, .arr 84 1 24 (elB fun j => dupR p k j) 0), (1000, .ro 2 l.length (elE l)), (1001, .ro 2 p.length (elE p))])
    (fun k => k ≤ p.length ∧ pairsB l p = !((List.range' k (p.length - k)).any (badP l p))) (fun k => p.length - k) 0 ⟨by omega, rfl⟩ (St.le_of rfl ⟨⟨_, rfl, rfl, rfl, Nat.le_refl _, fun i hi => rfl, Nat.le_refl _⟩, ⟨_, rfl, rfl, rfl, Nat.le_refl _, fun i hi => rfl, Nat.le_refl _⟩, ⟨_, rfl, Blk.le_refl _⟩, ⟨_, rfl, Blk.le_refl _⟩, trivial⟩ ⟨rfl, rfl, rfl, rfl, rfl, rfl, rfl, trivial⟩) ?_)
  rintro k ⟨hk, hfi⟩
  refine G.seqR tfine rfl trivial ?_
  refine G.seq (G.cond rfl (fun h => ?_) (fun h => ?_))
  rotate_left
  · have h := of_decide_eq_false h
    have : k = p.length := by omega
    subst this
    refine G.exit ?_
    refine G.seqR tfine rfl trivial ?_
    refine G.ret (endK.ret rfl ?_)
    rw [hfi, Nat.sub_self]
    rfl
  have h := of_decide_eq_true h
  have hlt : k < p.length := by omega
  rw [any_step hlt] at hfi
  have e0 : (IntKind.i64.wrap ((k : Int) - 1)).toNat = k - 1 := by
    rw [IntWalk.i64_in _ (by omega)]; omega
  have dl := dupL_succ p k
  have dr := dupR_succ p k
  obtain ⟨x, hx⟩ : ∃ x, x = (p.getD k (0, 0)).1 := ⟨_, rfl⟩
  obtain ⟨y, hy⟩ : ∃ y, y = (p.getD k (0, 0)).2 := ⟨_, rfl⟩
  have hxy : p.getD k (0, 0) = (x, y) := by rw [hx, hy]
  obtain ⟨px, hpx⟩ : ∃ px, px = (p.getD (k - 1) (0, 0)).1 := ⟨_, rfl⟩
  obtain ⟨kn, hkn⟩ : ∃ kn, kn = l.any (eqE (x, y)) := ⟨_, rfl⟩
  have hbad : badP l p k = (((!kn || dupL p k x) || dupR p k y) || (decide ((k : Int) > 0) && decide (x < px))) := by
    rw [badP, hxy, ← hkn, ← hpx]
  rw [hbad] at hfi
  rw [← hx] at dl
  rw [← hy] at dr
  refine G.skip ?_
  refine G.seq (G.block ?_)
  refine G.seqR tfine rfl ⟨by simpa using hlt, by omega, by omega, trivial⟩ ?_
  rw [Int.toNat_natCast, ← hx, ← hy]
  refine G.seq ?_
  refine G.seqDraw hmix [0, 0, 3, 7, 15, 31, 63, 127, 255, 511, 1023, 2047, 4095, 8191, 16383, 32767, 65535, 131071, 262143, 524287, 1048575, 2097151, 1048575, 1048575, 9437183, 30408703, 63963135, 131071999, 268435455, 536870911, 1073741823] [] rfl rfl rfl ?_
  refine GD.more tfine 0 rfl rfl trivial ?_
  refine GD.call (v := .bool kn) 2 rfl rfl rfl rfl rfl (fun args w => Try.call66 args w) (fun m hle ρ w hs hok => ?_) ?_
  · rw [hkn]
    exact containsE_any x y A c l w (hs.row (cap := c) (hle.at rfl) (hok _ List.mem_cons_self)) hm
  cases kn with
  | false =>
    refine GD.fin tfine 3 rfl rfl ?_ ?_
    · rw [e0, IntWalk.i64_in _ (by omega)]
      simp [AllP, condB]
      try omega
    refine G.cond_true rfl ?_
    refine G.seqR tfine rfl trivial ?_
    refine G.ret (endK.ret rfl ?_)
    rw [hfi]
    rfl
  | true =>
    have hb : (0 ≤ x ∧ x < 24) ∧ 0 ≤ y ∧ y < 24 := by
      obtain ⟨e, he, h1⟩ := List.any_eq_true.1 hkn.symm
      simp only [eqE, Bool.and_eq_true, beq_iff_eq] at h1
      have := h24 e he
      rw [h1.1, h1.2]
      exact this
    obtain ⟨a, ha⟩ : ∃ a : Nat, x = (a : Int) := ⟨x.toNat, by omega⟩
    obtain ⟨b, hb2⟩ : ∃ b : Nat, y = (b : Int) := ⟨y.toNat, by omega⟩
    rw [ha] at hb hfi dl
    rw [hb2] at hb hfi dr
    rw [ha, hb2]
    refine GD.fin tfine 3 rfl rfl ?_ ?_
    · rw [e0, IntWalk.i64_in ((k : Int) - 1) (by omega)]
      simp [AllP, condB]
      and_intros <;> intros <;> first | omega | (and_intros <;> assumption)
    rw [e0, Int.toNat_natCast, Int.toNat_natCast, ← hpx]
    refine G.cond (b := (((!true || dupL p k a) || dupR p k b) || (decide ((k : Int) > 0) && decide ((a : Int) < px)))) rfl (fun h2 => ?_) (fun h2 => ?_)
    · refine G.seqR tfine rfl trivial ?_
      refine G.ret (endK.ret rfl ?_)
      rw [hfi, h2]
      rfl
    rw [h2, Bool.false_or] at hfi
    refine G.skip ?_
    refine G.regD tfine hmix [0, 1, 0, 4, 3, 19, 63, 127] [(5, 5), (7, 6)] rfl rfl rfl rfl ?_ ?_
    · simp [AllP]
      omega
    rw [Int.toNat_natCast, Int.toNat_natCast]
    refine G.reg tfine rfl trivial ?_
    rw [IntWalk.i64_in ((k : Int) + 1) (by omega)]
    refine ⟨k + 1, ⟨by omega, hfi⟩, (by show p.length - (k + 1) < p.length - k; omega), St.le_of rfl ⟨⟨_, rfl, rfl, rfl, Nat.le_refl _, fun i hi => ?_, Nat.le_refl _⟩, ⟨_, rfl, rfl, rfl, Nat.le_refl _, fun i hi => ?_, Nat.le_refl _⟩, ⟨_, rfl, Blk.le_refl _⟩, ⟨_, rfl, Blk.le_refl _⟩, trivial⟩ ⟨rfl, rfl, rfl, rfl, rfl, rfl, by simp [up, I], trivial⟩⟩
    · simp only [elB, dl, hx.symm.trans ha]
      by_cases e : i = a
      · subst e; simp
      · simp [nbeq e]
        omega
    · simp only [elB, dr, hy.symm.trans hb2]
      by_cases e : i = b
      · subst e; simp
      · simp [nbeq e]
        omega
end Go.Proofs.Ytpoalimbjeehkaa
/- Chapter 37: Verify. -/
set_option linter.unusedVariables false
set_option linter.unusedSimpArgs false
set_option maxRecDepth 8000
set_option maxHeartbeats 1000000
namespace Go.Proofs.Ytpoalimbjeehkaa
open Go.Sx Go.RowKit Mt
def freeB (L R : List Int) (e : EI) : Bool := !(L.any fun y => e.1 == y) && !(R.any fun y => e.2 == y)
/-- What the closure of Verify has captured. -/
theorem free_any (g : Nat) (C1 C2 C3 : Option Addr) (c1 c2 c3 : Nat) (p : List EI) (L R : List Int) (a b : Int) (w : World) (hg : w.heap[g]? = some (.cells #[.slice C1 p.length c1, .slice C2 L.length c2, .slice C3 R.length c3] 47 (0, 0)))
    (h1 : RdRow w C1 p.length 2 (elE p)) (h2 : RdRow w C2 L.length 1 (elI L)) (h3 : RdRow w C3 R.length 1 (elI R)) (m2 : L.length ≤ 1000000) (m3 : R.length ≤ 1000000)
    (f1 : 0 < p.length → ∀ q, C1 = some q → q.block ≠ g) (f2 : 0 < L.length → ∀ q, C2 = some q → q.block ≠ g) (f3 : 0 < R.length → ∀ q, C3 = some q → q.block ≠ g) :
    Calls Try.prog 52 #[.agg #[I a, I b], .pointer (some ⟨g, 0, none⟩)] w fun e w' => e = .returned (.bool (freeB L R (a, b))) ∧ Below w.heap.size w w' := by
  refine enterCap tfine (g := g) 47 [.inp 1000 C1 p.length c1, .inp 1001 C2 L.length c2, .inp 1002 C3 R.length c3] Try.func52 rfl 18 Try.ntmps52 [.agg [.k (I a), .k (I b)], .c (.ptr 1900 0 0 0)] [⟨1000, C1, 2, p.length, elE p⟩, ⟨1001, C2, 1, L.length, elI L⟩, ⟨1002, C3, 1, R.length, elI R⟩]
    ⟨nx rfl, f1, nx rfl, f2, nx rfl, f3, trivial⟩ hg rfl rfl ⟨h1, h2, h3, trivial⟩ ⟨.inl ⟨rfl, rfl, rfl⟩, .inr ⟨nx rfl, .inl ⟨rfl, rfl, rfl⟩⟩, .inr ⟨nx rfl, .inr ⟨nx rfl, .inl ⟨rfl, rfl, rfl⟩⟩⟩, trivial⟩ ⟨⟨trivial, trivial, trivial⟩, rfl, trivial⟩ ?_
  refine G.seqR tfine rfl trivial ?_
  refine G.seqC tfine rfl trivial ?_
  refine GO.callPlain (v := .bool (L.any fun y => a == y)) rfl rfl rfl rfl (fun args w => Try.call53 args w) (fun ρ w hs hok => contains_any a C2 c2 L w (hs.row (cap := c2) rfl (hok _ List.mem_cons_self)) m2) ?_
  refine GO.more tfine rfl ?_ ?_
  · first | trivial | (simp [AllP, condB]; done) | (simp only [AllP]; and_intros <;> first | trivial | decide | omega) | (simp [AllP, condB]; intros; and_intros <;> first | assumption | omega) | (simp [AllP, condB]; intros; simp_all; done) | (simp [AllP, condB]; intros; simp_all; omega) | (simp [AllP, condB]; omega)
  refine GO.callGuard (.bool (R.any fun y => b == y)) rfl rfl rfl (by first | exact trivial | exact ⟨id, trivial⟩ | exact ⟨id, id, trivial⟩ | exact ⟨id, id, id, trivial⟩ | exact ⟨id, id, id, id, trivial⟩) rfl rfl (fun args w => Try.call53 args w) rfl (fun _ m' hle ρ w hs hok => contains_any b C3 c3 R w (hs.row (cap := c3) (hle.at rfl) (hok _ List.mem_cons_self)) m3) ?_
  refine GO.fin tfine rfl ?_ ?_
  · first | trivial | (simp [AllP, condB]; done) | (simp only [AllP]; and_intros <;> first | trivial | decide | omega) | (simp [AllP, condB]; intros; and_intros <;> first | assumption | omega) | (simp [AllP, condB]; intros; simp_all; done) | (simp [AllP, condB]; intros; simp_all; omega) | (simp [AllP, condB]; omega)
  exact G.ret (endCap.ret rfl rfl rfl)
def verifyM (n m : Int) (l p : List EI) (L R : List Int) : Int := if (checkM n m l != 0) = true then 1 else if (((((!(pairsB l p)) || !(ascB L n)) || !(ascB R m)) || l.any (freeB L R)) || ((p.length : Int) != (L.length : Int) + (R.length : Int))) = true then 14 else 0
theorem Verify_any (n m : Int) (A : Option Addr) (c : Nat) (l : List EI) (C1 C2 C3 : Option Addr) (c1 c2 c3 : Nat) (p : List EI) (L R : List Int) (w : World) (hl : RdRow w A l.length 2 (elE l)) (h1 : RdRow w C1 p.length 2 (elE p)) (h2 : RdRow w C2 L.length 1 (elI L)) (h3 : RdRow w C3 R.length 1 (elI R))
    (hm : l.length ≤ 1000000) (m1 : p.length ≤ 1000000) (m2 : L.length ≤ 1000000) (m3 : R.length ≤ 1000000) :
    Calls Try.prog 29 #[I n, I m, .slice A l.length c, .agg #[.slice C1 p.length c1, .slice C2 L.length c2, .slice C3 R.length c3]] w fun e w' => e = .returned (I (verifyM n m l p L R)) ∧ Below w.heap.size w w' := by
  refine enterPlain tfine Try.func29 rfl 53 Try.ntmps29 [.c (.k (I n)), .c (.k (I m)), .c (.inp 1000 A l.length c), .agg [.inp 1001 C1 p.length c1, .inp 1002 C2 L.length c2, .inp 1003 C3 R.length c3]]
    [⟨1000, A, 2, l.length, elE l⟩, ⟨1001, C1, 2, p.length, elE p⟩, ⟨1002, C2, 1, L.length, elI L⟩, ⟨1003, C3, 1, R.length, elI R⟩] rfl rfl ⟨hl, h1, h2, h3, trivial⟩
    ⟨trivial, trivial, .inl ⟨rfl, rfl, rfl⟩, ⟨.inr ⟨nx rfl, .inl ⟨rfl, rfl, rfl⟩⟩, .inr ⟨nx rfl, .inr ⟨nx rfl, .inl ⟨rfl, rfl, rfl⟩⟩⟩, .inr ⟨nx rfl, .inr ⟨nx rfl, .inr ⟨nx rfl, .inl ⟨rfl, rfl, rfl⟩⟩⟩⟩, trivial⟩, trivial⟩ ?_
  refine G.seqR tfine rfl trivial ?_
  refine G.seq ?_
  refine G.seqC tfine rfl trivial ?_
  refine GO.callPlain (v := I (checkM n m l)) rfl rfl rfl rfl (fun args w => Try.call51 args w) (fun ρ w hs hok => check_any n m A c l w (hs.row (cap := c) rfl (hok _ (List.mem_cons_of_mem _ (List.mem_cons_of_mem _ List.mem_cons_self)))) hm) ?_
  refine GO.fin tfine rfl trivial ?_
  refine G.cond (b := (checkM n m l != 0)) rfl (fun h => ?_) (fun h => ?_)
  · refine G.seqR tfine rfl trivial ?_
    refine G.ret (endK.ret rfl ?_)
    rw [verifyM, if_pos h]
  have h0 : checkM n m l = 0 := by simpa using h
  have ok := check_ok h0
  have h24 : ∀ e ∈ l, (0 ≤ e.1 ∧ e.1 < 24) ∧ 0 ≤ e.2 ∧ e.2 < 24 := by
    intro e he
    rw [ok.hl] at he
    obtain ⟨x, hx, rfl⟩ := List.mem_map.1 he
    have := ok.lt24 x hx
    simp only
    omega
  refine G.skip ?_
  refine G.seqR tfine rfl trivial ?_
  refine G.seq ?_
  refine G.seqC tfine rfl trivial ?_
  refine GO.callPlain (v := .bool (pairsB l p)) rfl rfl rfl rfl (fun args w => Try.call54 args w) (fun ρ w hs hok => pairs_any A c l C1 c1 p w h24 (hs.row (cap := c) rfl (hok _ List.mem_cons_self)) (hs.row (cap := c1) rfl (hok _ (List.mem_cons_of_mem _ List.mem_cons_self))) hm m1) ?_
  refine GO.more tfine rfl ?_ ?_
  · first | trivial | (simp [AllP, condB]; done) | (simp only [AllP]; and_intros <;> first | trivial | decide | omega) | (simp [AllP, condB]; intros; and_intros <;> first | assumption | omega) | (simp [AllP, condB]; intros; simp_all; done) | (simp [AllP, condB]; intros; simp_all; omega) | (simp [AllP, condB]; omega)
  refine GO.callGuard (.bool (ascB L n)) rfl rfl rfl (by first | exact trivial | exact ⟨id, trivial⟩ | exact ⟨id, id, trivial⟩ | exact ⟨id, id, id, trivial⟩ | exact ⟨id, id, id, id, trivial⟩) rfl rfl (fun args w => Try.call55 args w) rfl (fun _ m' hle ρ w hs hok => ascends_any n C2 c2 L w (hs.row (cap := c2) (hle.at rfl) (hok _ List.mem_cons_self)) m2) ?_
  refine GO.more tfine rfl ?_ ?_
  · first | trivial | (simp [AllP, condB]; done) | (simp only [AllP]; and_intros <;> first | trivial | decide | omega) | (simp [AllP, condB]; intros; and_intros <;> first | assumption | omega) | (simp [AllP, condB]; intros; simp_all; done) | (simp [AllP, condB]; intros; simp_all; omega) | (simp [AllP, condB]; omega)
  refine GO.callGuard (.bool (ascB R m)) rfl rfl rfl (by first | exact trivial | exact ⟨id, trivial⟩ | exact ⟨id, id, trivial⟩ | exact ⟨id, id, id, trivial⟩ | exact ⟨id, id, id, id, trivial⟩) rfl rfl (fun args w => Try.call55 args w) rfl (fun _ m' hle ρ w hs hok => ascends_any m C3 c3 R w (hs.row (cap := c3) (hle.at rfl) (hok _ List.mem_cons_self)) m3) ?_
  refine GO.more tfine rfl ?_ ?_
  · first | trivial | (simp [AllP, condB]; done) | (simp only [AllP]; and_intros <;> first | trivial | decide | omega) | (simp [AllP, condB]; intros; and_intros <;> first | assumption | omega) | (simp [AllP, condB]; intros; simp_all; done) | (simp [AllP, condB]; intros; simp_all; omega) | (simp [AllP, condB]; omega)
  refine GO.callGuard (.bool (l.any (freeB L R))) rfl rfl rfl (by first | exact trivial | exact ⟨id, trivial⟩ | exact ⟨id, id, trivial⟩ | exact ⟨id, id, id, trivial⟩ | exact ⟨id, id, id, id, trivial⟩) rfl rfl (fun args w => Try.call56 args w) rfl (fun _ m' hle ρ w hs hok => ?_) ?_
  · have k7 := hs.ok 7 _ (hle.at rfl)
    have lt7 := hs.lt (x := 7) (hle.at rfl) trivial
    have i1 : AC.ok ρ m' (.inp 1001 C1 p.length c1) := k7.2.2.2 _ List.mem_cons_self
    have i2 : AC.ok ρ m' (.inp 1002 C2 L.length c2) := k7.2.2.2 _ (List.mem_cons_of_mem _ List.mem_cons_self)
    have i3 : AC.ok ρ m' (.inp 1003 C3 R.length c3) := k7.2.2.2 _ (List.mem_cons_of_mem _ (List.mem_cons_of_mem _ List.mem_cons_self))
    have f1 := hs.apart (x := 7) (hle.at rfl) trivial (q := 1001) (hle.at rfl) i1 (Nat.le_refl _) (nx rfl)
    have f2 := hs.apart (x := 7) (hle.at rfl) trivial (q := 1002) (hle.at rfl) i2 (Nat.le_refl _) (nx rfl)
    have f3 := hs.apart (x := 7) (hle.at rfl) trivial (q := 1003) (hle.at rfl) i3 (Nat.le_refl _) (nx rfl)
    have r1 := hs.rd (x := 1001) (cap := c1) (hle.at rfl) i1 (Nat.le_refl _)
    have r2 := hs.rd (x := 1002) (cap := c2) (hle.at rfl) i2 (Nat.le_refl _)
    have r3 := hs.rd (x := 1003) (cap := c3) (hle.at rfl) i3 (Nat.le_refl _)
    have := containsFuncE_any 52 [.pointer (some ⟨(ρ 7).1, 0, none⟩)] (freeB L R) (fun args w => Try.call52 args w) A c l w
      (fun a b w1 hb => free_any (ρ 7).1 C1 C2 C3 c1 c2 c3 p L R a b w1 ((hb.block _ lt7).trans k7.2.2.1) (r1.below hb) (r2.below hb) (r3.below hb) m2 m3 f1 f2 f3) (hs.row (cap := c) (hle.at rfl) (hok _ List.mem_cons_self)) hm
    have e7 : (ρ 7).2 = 0 := k7.1
    have e : (List.map (AV.conc ρ) [AV.c (.inp 1000 A l.length c), AV.c (.fn 52 [.own 7 0])] ++ List.map (Cap.conc ρ) []).toArray = #[.slice A l.length c, .func (.func 52) #[] [Value.pointer (some ⟨(ρ 7).1, 0, none⟩)].toArray] := by
      simp [AV.conc, AC.conc, Cap.conc, e7]
    rw [← e] at this
    exact this
  refine GO.fin tfine rfl ?_ ?_
  · first | trivial | (simp [AllP, condB]; done) | (simp only [AllP]; and_intros <;> first | trivial | decide | omega) | (simp [AllP, condB]; intros; and_intros <;> first | assumption | omega) | (simp [AllP, condB]; intros; simp_all; done) | (simp [AllP, condB]; intros; simp_all; omega) | (simp [AllP, condB]; omega)
  rw [IntWalk.i64_in ((L.length : Int) + (R.length : Int)) (by omega)]
  refine G.cond (b := (((((!(pairsB l p)) || !(ascB L n)) || !(ascB R m)) || l.any (freeB L R)) || ((p.length : Int) != (L.length : Int) + (R.length : Int)))) rfl (fun h2 => ?_) (fun h2 => ?_)
  · refine G.seqR tfine rfl trivial ?_
    refine G.ret (endK.ret rfl ?_)
    rw [verifyM, if_neg (fne h), if_pos h2]
  · refine G.skip ?_
    refine G.seqR tfine rfl trivial ?_
    refine G.ret (endK.ret rfl ?_)
    rw [verifyM, if_neg (fne h), if_neg (fne h2)]
end Go.Proofs.Ytpoalimbjeehkaa
/- Chapter 37: the example of the chapter. -/
set_option linter.unusedVariables false
set_option linter.unusedSimpArgs false
set_option maxRecDepth 8000
set_option maxHeartbeats 1000000
namespace Go.Proofs.Ytpoalimbjeehkaa
open Go.Sx Go.RowKit Mt
def castI (L : List Nat) : List Int := L.map fun n : Nat => (n : Int)
theorem castI_len (L : List Nat) : (castI L).length = L.length := by simp [castI]
theorem elI_cast (L : List Nat) (i : Nat) : elI (castI L) i = elW L i := by
  simp only [elI, elW, castI, List.getD_eq_getElem?_getD, List.getElem?_map]
  cases L[i]? <;> rfl
theorem elG_eq (L : List Eg) : elG L = elE (castL L) := funext fun i => (elE_cast L i).symm
theorem elW_eq (L : List Nat) : elW L = elI (castI L) := funext fun i => (elI_cast L i).symm
/-- Two lists of numbers are equal. -/
def eqI (a b : List Int) : Bool := ((a.length : Int) == (b.length : Int)) && !((List.range' 0 a.length).any fun k => a.getD k 0 != b.getD k 0)
theorem equal_any (A B : Option Addr) (c d : Nat) (a b : List Int) (w : World) (h1 : RdRow w A a.length 1 (elI a)) (h2 : RdRow w B b.length 1 (elI b)) (m1 : a.length ≤ 1000000) :
    Calls Try.prog 25 #[.slice A a.length c, .slice B b.length d] w fun e w' => e = .returned (.bool (eqI a b)) ∧ Below w.heap.size w w' := by
  refine enterPlain tfine Try.func25 rfl 26 Try.ntmps25 [.c (.inp 1000 A a.length c), .c (.inp 1001 B b.length d)] [⟨1000, A, 1, a.length, elI a⟩, ⟨1001, B, 1, b.length, elI b⟩] rfl rfl ⟨h1, h2, trivial⟩ ⟨.inl ⟨rfl, rfl, rfl⟩, .inr ⟨nx rfl, .inl ⟨rfl, rfl, rfl⟩⟩, trivial⟩ ?_
  refine G.seqR tfine rfl trivial ?_
  refine G.seq ?_
  refine G.seqR tfine rfl trivial ?_
  refine G.cond (b := ((a.length : Int) != (b.length : Int))) rfl (fun h => ?_) (fun h => ?_)
  · refine G.seqR tfine rfl trivial ?_
    refine G.ret (endK.ret rfl ?_)
    have : ((a.length : Int) == (b.length : Int)) = false := by simpa using h
    rw [eqI, this]
    rfl
  have hlen : a.length = b.length := by
    have : ((a.length : Int)) = (b.length : Int) := by simpa using h
    omega
  have hq : eqI a b = !((List.range' 0 a.length).any fun k => a.getD k 0 != b.getD k 0) := by
    rw [eqI, hlen]; simp
  rw [hq]
  refine G.skip ?_
  refine G.seq (G.seqR tfine rfl trivial ?_)
  refine G.block (G.loop (fun k : Nat => St.of [(0, .v (.c (.inp 1000 A a.length c))), (1, .v (.c (.inp 1001 B b.length d))), (12, .v (.c (.k (I a.length)))), (13, .v (.c (.k (I k))))] [(1000, .ro 1 a.length (elI a)), (1001, .ro 1 b.length (elI b))])
    (fun k => k ≤ a.length ∧ (List.range' 0 a.length).any (fun k => a.getD k 0 != b.getD k 0) = (List.range' k (a.length - k)).any (fun k => a.getD k 0 != b.getD k 0)) (fun k => a.length - k) 0 ⟨by omega, rfl⟩ (St.le_of rfl ⟨⟨_, rfl, Blk.le_refl _⟩, ⟨_, rfl, Blk.le_refl _⟩, trivial⟩ ⟨rfl, rfl, rfl, rfl, trivial⟩) ?_)
  rintro k ⟨hk, hfi⟩
  refine G.seqR tfine rfl trivial ?_
  refine G.seq (G.cond rfl (fun h => ?_) (fun h => ?_))
  rotate_left
  · have h := of_decide_eq_false h
    have : k = a.length := by omega
    subst this
    refine G.exit ?_
    refine G.seqR tfine rfl trivial ?_
    refine G.ret (endK.ret rfl ?_)
    rw [hfi, Nat.sub_self]
    rfl
  have h := of_decide_eq_true h
  have hlt : k < a.length := by omega
  rw [any_step hlt] at hfi
  refine G.skip ?_
  refine G.seq (G.block ?_)
  refine G.seqR tfine rfl trivial ?_
  refine G.seqD tfine hmix [0, 0, 3, 7, 0, 0, 48, 112, 255] [] rfl rfl rfl rfl ?_ ?_
  · simp [AllP]
    omega
  rw [Int.toNat_natCast]
  refine G.cond (b := (a.getD k 0 != b.getD k 0)) rfl (fun h2 => ?_) (fun h2 => ?_)
  · refine G.seqR tfine rfl trivial ?_
    refine G.ret (endK.ret rfl ?_)
    rw [hfi, h2]
    rfl
  · rw [h2, Bool.false_or] at hfi
    refine G.skip ?_
    refine G.reg tfine rfl trivial ?_
    rw [IntWalk.i64_in ((k : Int) + 1) (by omega)]
    exact ⟨k + 1, ⟨by omega, hfi⟩, (by show a.length - (k + 1) < a.length - k; omega), St.le_of rfl ⟨⟨_, rfl, Blk.le_refl _⟩, ⟨_, rfl, Blk.le_refl _⟩, trivial⟩ ⟨rfl, rfl, rfl, by simp [up, I], trivial⟩⟩
def exL : List EI := [(0, 0), (1, 0), (2, 0), (2, 1), (2, 2)]
theorem ex_size : sizeA 3 3 exL = (2, 0) := by decide +kernel
theorem ex_lack : lackA 3 3 exL = ([0, 1], [0], 0) := by decide +kernel
theorem ex_match : matchA 3 3 exL = ([(0, 0), (2, 1)], [2], [0], 0) := by decide +kernel
theorem ex_verify : verifyM 3 3 exL [(0, 0), (2, 1)] [2] [0] = 0 := by decide +kernel
theorem ex_eq1 : eqI [0, 1] [0, 1] = true := by decide +kernel
theorem ex_eq2 : eqI [0] [0] = true := by decide +kernel
end Go.Proofs.Ytpoalimbjeehkaa
/- The symbolic executor, part AE: make of a row, lists that grow from an empty row on. Generic over P. -/
set_option linter.unusedVariables false
set_option linter.unusedSimpArgs false
namespace Go.Sx
open Go.RowKit
section
variable {P : Program} {E : Env} {K : Exit → St → Prop} {T : Tab}
def accVA (A0 : Option Addr) (d sz n c : Nat) : AC := match n with
  | 0 => .k (.slice A0 0 0)
  | n + 1 => .slc d 0 sz (n + 1) c
theorem GO.appendAccA {A0 : Option Addr} {ops : Array Oper} {rest : List Oper} {o : Oper} {s y : Operand} {t e size bytes d n c : Nat} {z : Value} {t0 : Nat → TV} {m : Mem} {el : Nat → List Value} {q c1 : Nat} {ty1 : TypeId} (vs : List Value) (tl : List (Nat × TV)) (ml : List (Nat × Blk)) (hp : ApT P t e size bytes z) (hg : o.guard = none) (hop : o.op = .call { callee := .builtin .append, args := #[s, y], argTypes := #[t, t] })
    (hd : o.dst = some d) (hdN : Nat.blt d E.N = true) (hdb : Nat.blt d 1000 = true) (hs : evT t0 s = .v (.c (accVA A0 d size n c))) (hx : 0 < n → m d = some (.arr e size n el ((c - n) * size)))
    (hy : evT t0 y = .v (.c (.slc q 0 size 1 c1))) (hq : m q = some (.var ty1 (vs.map .k))) (hv : vs.length = size) (h1 : ∀ u ∈ vs, u.oneCell' = true)
    (hle : St.le E (St.of tl ml) ⟨t0, m⟩) (hfr : ∀ z b, (St.of tl ml).m z = some b → m z = some b ∧ z ≠ d) (hlen : ∀ k, k < n → (el k).length = size) (b1 : n + 1 ≤ maxLen) (b2 : (n + 1) * bytes ≤ 140737488355328)
    (k : ∀ c', n + 1 ≤ c' → GO P E ops K rest ⟨up (St.of tl ml).t d (.v (.c (.slc d 0 size (n + 1) c'))), up (St.of tl ml).m d (some (.arr e size (n + 1) (elN el n vs) ((c' - (n + 1)) * size)))⟩) : GO P E ops K (o :: rest) ⟨t0, m⟩ := by
  have hfree : (St.of tl ml).m d = none := by
    cases h : (St.of tl ml).m d with
    | none => rfl
    | some b => exact absurd rfl (hfr d b h).2
  cases n with
  | succ n => exact GO.appendOwn vs tl ml hp hg hop hd hdN hdb hdb hs (hx (Nat.succ_pos n)) (Nat.le_refl _) hy hq hv h1 hle hfr hfree hlen b1 b2 k
  | zero =>
    intro ρ a w hsat
    have hs0 := hle ρ a w hsat
    have es : a.eval s = .slice A0 0 0 := by have := hsat.eval s; simp only [St.ev, hs] at this; exact this.2
    have ex := hsat.eval y
    simp only [St.ev, hy] at ex
    obtain ⟨B, cc, e3, hr⟩ := (RowOf.var (P := P) (E := E) (c := c1) (n := 1) (sz := size) hq (by omega)) ρ w hsat.mem ex.1
    have hone : ∀ i, i < 1 → elN el 0 vs i = vs := fun i hi => by
      have : i = 0 := by omega
      subst this
      exact elN_eq
    have hr' : RdRow w B 1 size (elN el 0 vs) := hr.congr fun i hi => by
      rw [hone i hi]
      have : i = 0 := by omega
      subst this
      simp [← hv]
    have ex : a.eval y = .slice B 1 cc := ex.2.trans e3
    unfold wpList
    rw [if_pos (by simp [Region.wanted, hg])]
    refine .inl ?_
    unfold Oper.wp
    rcases append_new (ty := o.type) hp (A := A0) (c := cc) hr' (fun i hi u hu => h1 u (by rw [hone i hi] at hu; exact hu)) (by omega) (by omega) with ⟨h0, _⟩ | ⟨h0, v', w', hrun, r1, r2⟩
    · cases h0
    · have : (execOp a.eval o).run P w = .ok (.value v') w' := by
        simp [execOp, hop, resolve, invoke, builtin, es, ex, hrun, Result.andThen]
      rw [this]
      obtain ⟨ρ', c', h2, h3, h4, h5⟩ := hs0.mem.newOwn hfree (by simpa [Nat.blt_eq] using hdb) (fun i hi => by rw [hone i hi]; exact hv) h0 r1 r2
      refine k c' h2 ρ' _ w' ?_
      rw [hd]
      refine (hs0.move h4 (fun y hy => isSome_up y hy) h3).put (by simpa [Nat.blt_eq] using hdN) ⟨?_, h5⟩
      show (up (St.of tl ml).m d _ d).isSome = true
      rw [up_same]; rfl
theorem GO.appendAccAB {A0 : Option Addr} {ops : Array Oper} {rest : List Oper} {o : Oper} {s y : Operand} {t e size bytes d n c : Nat} {z : Value} {t0 : Nat → TV} {m : Mem} {el : Nat → List Value} {q c1 : Nat} {ty1 : TypeId} (vs : List Value) (tl : List (Nat × TV)) (ml : List (Nat × Blk)) (hp : ApT P t e size bytes z) (hg : o.guard = none) (hop : o.op = .call { callee := .builtin .append, args := #[s, y], argTypes := #[t, t] })
    (hd : o.dst = some d) (hdN : Nat.blt d E.N = true) (hdb : Nat.blt d 1000 = true) (hs : evT t0 s = .v (.c (accVA A0 d size n c))) (hx : m d = some (accB e size n c el))
    (hy : evT t0 y = .v (.c (.slc q 0 size 1 c1))) (hq : m q = some (.var ty1 (vs.map .k))) (hv : vs.length = size) (h1 : ∀ u ∈ vs, u.oneCell' = true)
    (hle : St.le E (St.of tl ml) ⟨t0, m⟩) (hfr : ∀ z b, (St.of tl ml).m z = some b → m z = some b ∧ z ≠ d) (hlen : ∀ k, k < n → (el k).length = size) (b1 : n + 1 ≤ maxLen) (b2 : (n + 1) * bytes ≤ 140737488355328)
    (k : ∀ c', n + 1 ≤ c' → GO P E ops K rest ⟨up (St.of tl ml).t d (.v (.c (.slc d 0 size (n + 1) c'))), up (St.of tl ml).m d (some (.arr e size (n + 1) (elN el n vs) ((c' - (n + 1)) * size)))⟩) : GO P E ops K (o :: rest) ⟨t0, m⟩ :=
  GO.appendAccA vs tl ml hp hg hop hd hdN hdb hs (fun h0 => by rw [hx, accB_pos h0]) hy hq hv h1 hle hfr hlen b1 b2 k
/-- make of n elements of one cell each. -/
theorem GO.make1 {ops : Array Oper} {rest : List Oper} {o : Oper} {l c : Operand} {t e bytes d : Nat} {z : Value} {t0 : Nat → TV} {m : Mem} {kl kc : IntKind} (n : Nat) (hp : ApT P t e 1 bytes z) (hz1 : z.cells = #[z]) (hg : o.guard = none) (hop : o.op = .makeSlice t l c)
    (hd : o.dst = some d) (hdN : Nat.blt d E.N = true) (hdb : Nat.blt d 1000 = true) (hfree : m d = none) (hl : evT t0 l = .v (.c (.k (.int kl (n : Int))))) (hc : evT t0 c = .v (.c (.k (.int kc (n : Int))))) (b1 : n ≤ maxLen) (b2 : bytes * n ≤ 281474976710656)
    (k0 : n = 0 → ∀ A, (∀ a : Addr, A = some a → a.spot = none) → GO P E ops K rest ⟨up t0 d (.v (.c (.k (.slice A 0 0)))), m⟩)
    (k1 : 0 < n → ∀ c, n ≤ c → GO P E ops K rest ⟨up t0 d (.v (.c (.slc d 0 1 n c))), up m d (some (.arr e 1 n (fun _ => [z]) ((c - n) * 1)))⟩) : GO P E ops K (o :: rest) ⟨t0, m⟩ := by
  intro ρ a w hsat
  obtain ⟨i, hi, hz, hs, hb⟩ := hp.info
  have el : a.eval l = .int kl (n : Int) := by have := hsat.eval l; simp only [St.ev, hl] at this; exact this.2
  have ec : a.eval c = .int kc (n : Int) := by have := hsat.eval c; simp only [St.ev, hc] at this; exact this.2
  obtain ⟨w', hrun, r1, r2⟩ := run_make_full (P := P) w w.heap.size t e i z 1 hp.ht hi hz hs kl kc n (by rw [hb]; exact b2) b1 (Nat.le_refl _)
  have hcells : (madeCells z.cells (n * 1)).toList = flatE (fun _ => [z]) 0 n := by
    rw [hz1, toList_madeCells_one, Nat.mul_one]
    have : ∀ (k i : Nat), flatE (fun _ => [z]) i k = List.replicate k z := by
      intro k
      induction k with
      | zero => intro i; rfl
      | succ k ih => intro i; rw [flatE, ih]; rfl
    exact (this n 0).symm
  rw [hcells] at r1
  unfold wpList
  rw [if_pos (by simp [Region.wanted, hg])]
  refine .inl ?_
  unfold Oper.wp
  have : (execOp a.eval o).run P w = .ok (.value (.slice (some ⟨w.heap.size, 0, none⟩) n n)) w' := by
    simp [execOp, hop, el, ec, hrun, Result.andThen]
  rw [this]
  by_cases h0 : n = 0
  · refine k0 h0 (some ⟨w.heap.size, 0, none⟩) (fun a ha => by injection ha with ha; subst ha; rfl) ρ _ w' ?_
    rw [hd]
    have hbl : Below w.heap.size w w' := ⟨r2.os, r2.tape, r2.output, r2.size, fun k hk => r2.block k hk (by simp)⟩
    refine (hsat.below hbl).put (by simpa [Nat.blt_eq] using hdN) ⟨trivial, ?_⟩
    subst h0
    rfl
  · obtain ⟨ρ', c', h2, h3, h4, h5⟩ := hsat.mem.newOwn hfree (by simpa [Nat.blt_eq] using hdb) (el := fun _ => [z]) (fun i hi => rfl) (by omega) r1 r2
    refine k1 (by omega) c' h2 ρ' _ w' ?_
    rw [hd]
    refine (hsat.move h4 (fun y hy => isSome_up y hy) h3).put (by simpa [Nat.blt_eq] using hdN) ⟨?_, h5⟩
    show (up m d _ d).isSome = true
    rw [up_same]; rfl
end
end Go.Sx
