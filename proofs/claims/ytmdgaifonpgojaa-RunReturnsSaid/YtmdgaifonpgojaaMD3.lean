/- Openers of arguments for the rows: arrays of two and of three whole numbers. -/
import Derived.Test.YtmdgaifonpgojaaMD2
import Derived.WideKeyPair
/- The symbolic executor, part AB: closures that read several captured variables (which may hold slices that came in). Generic over P. -/
set_option linter.unusedVariables false
set_option linter.unusedSimpArgs false
namespace Go.Sx
open Go.RowKit
structure Cb where
  x : Nat
  g : Nat
  ty : TypeId
  cells : List AC
def capsV (l : List Inp) (C : List Cb) (x : Nat) : Nat × Nat := match C with
  | [] => inpsV l x
  | b :: r => bif Nat.beq x b.x then (b.g, 0) else capsV l r x
def capsM (l : List Inp) (C : List Cb) (x : Nat) : Option Blk := match C with
  | [] => lkM (inpsM l) x
  | b :: r => bif Nat.beq x b.x then some (.var b.ty b.cells) else capsM l r x
def nameIn (C : List Cb) (x : Nat) : Prop := match C with
  | [] => False
  | b :: r => x = b.x ∨ nameIn r x
def AC.caps (l : List Inp) (C : List Cb) : AC → Prop
  | .k _ => True
  | .inp x A len _ => inpIn l x A len
  | .ptr x _ _ _ => nameIn C x
  | _ => False
def allACs (l : List Inp) (C : List Cb) : List AC → Prop
  | [] => True
  | a :: r => a.caps l C ∧ allACs l C r
def AV.caps (l : List Inp) (C : List Cb) : AV → Prop
  | .c a => a.caps l C
  | .agg cs => allACs l C cs
def allCapss (l : List Inp) (C : List Cb) : List AV → Prop
  | [] => True
  | a :: r => a.caps l C ∧ allCapss l C r
def lowI : List Inp → Prop
  | [] => True
  | i :: r => i.x < 1900 ∧ lowI r
def apartI (g : Nat) : List Inp → Prop
  | [] => True
  | i :: r => (0 < i.n → ∀ a, i.A = some a → a.block ≠ g) ∧ apartI g r
def allCb (p : Cb → Prop) : List Cb → Prop
  | [] => True
  | b :: r => p b ∧ allCb p r
theorem allCb_mem {p : Cb → Prop} {C : List Cb} (h : allCb p C) : ∀ b ∈ C, p b := by
  induction C with
  | nil => intro b hb; cases hb
  | cons c r ih =>
    intro b hb
    cases hb with
    | head => exact h.1
    | tail _ hb => exact ih h.2 b hb
def pairsCb : List Cb → Prop
  | [] => True
  | b :: r => allCb (fun c => b.x ≠ c.x ∧ b.g ≠ c.g) r ∧ pairsCb r
def Cb.fit (w : World) (l : List Inp) (b : Cb) : Prop := 1900 ≤ b.x ∧ apartI b.g l ∧ allAC l b.cells ∧ w.heap[b.g]? = some (.cells (b.cells.map (AC.conc fun _ => (0, 0))).toArray b.ty (0, 0))
theorem pairs_inj {C : List Cb} (h : pairsCb C) : ∀ b ∈ C, ∀ c ∈ C, b = c ∨ (b.x ≠ c.x ∧ b.g ≠ c.g) := by
  induction C with
  | nil => intro b hb; cases hb
  | cons d r ih =>
    intro b hb c hc
    cases hb with
    | head =>
      cases hc with
      | head => exact .inl rfl
      | tail _ hc => exact .inr (allCb_mem h.1 c hc)
    | tail _ hb =>
      cases hc with
      | head =>
        have := allCb_mem h.1 b hb
        exact .inr ⟨this.1.symm, this.2.symm⟩
      | tail _ hc => exact ih h.2 b hb c hc
theorem caps_at {l : List Inp} {C : List Cb} (h : pairsCb C) {b : Cb} (hb : b ∈ C) : capsV l C b.x = (b.g, 0) ∧ capsM l C b.x = some (.var b.ty b.cells) := by
  induction C with
  | nil => cases hb
  | cons d r ih =>
    cases hb with
    | head => simp only [capsV, capsM, Nat.beq_refl, cond_true]; exact ⟨trivial, trivial⟩
    | tail _ hb =>
      have e : Nat.beq b.x d.x = false := by
        cases e : Nat.beq b.x d.x with
        | false => rfl
        | true => exact absurd (Nat.eq_of_beq_eq_true e).symm (allCb_mem h.1 b hb).1
      simp only [capsV, capsM, e, cond_false]
      exact ih h.2 hb
theorem caps_none {l : List Inp} {C : List Cb} {x : Nat} (h : ∀ b ∈ C, b.x ≠ x) : capsV l C x = inpsV l x ∧ capsM l C x = lkM (inpsM l) x := by
  induction C with
  | nil => exact ⟨rfl, rfl⟩
  | cons d r ih =>
    have e : Nat.beq x d.x = false := by
      cases e : Nat.beq x d.x with
      | false => rfl
      | true => exact absurd (Nat.eq_of_beq_eq_true e).symm (h d (.head _))
    simp only [capsV, capsM, e, cond_false]
    exact ih fun b hb => h b (.tail _ hb)
theorem nameIn_mem {C : List Cb} {x : Nat} (h : nameIn C x) : ∃ b ∈ C, b.x = x := by
  induction C with
  | nil => cases h
  | cons d r ih =>
    rcases h with rfl | h
    · exact ⟨d, .head _, rfl⟩
    · obtain ⟨b, hb, e⟩ := ih h
      exact ⟨b, .tail _ hb, e⟩
theorem low_at {l : List Inp} (h : lowI l) {x : Nat} {b : Blk} (hx : lkM (inpsM l) x = some b) : x < 1900 := by
  induction l with
  | nil => cases hx
  | cons i r ih =>
    cases hb : Nat.beq x i.x with
    | true => rw [Nat.eq_of_beq_eq_true hb]; exact h.1
    | false =>
      simp only [inpsM, lkM, hb, cond_false] at hx
      exact ih h.2 hx
theorem apartI_at {l : List Inp} {g : Nat} (h : apartI g l) {x n sz : Nat} {el : Nat → List Value} (hx : lkM (inpsM l) x = some (.ro sz n el)) {w : World} (hr : allRd w l) (h0 : 0 < n) : (inpsV l x).1 ≠ g := by
  induction l with
  | nil => cases hx
  | cons i r ih =>
    cases hb : Nat.beq x i.x with
    | true =>
      simp only [inpsM, lkM, hb, cond_true] at hx
      injection hx with hx
      injection hx with e1 e2 e3
      subst e2
      obtain ⟨b, o, e, _⟩ := hr.1 h0
      simp only [inpsV, hb, cond_true, e]
      exact h.1 h0 _ e
    | false =>
      simp only [inpsM, lkM, hb, cond_false] at hx
      simp only [inpsV, hb, cond_false]
      exact ih h.2 hx hr.2
def capsB (C : List Cb) : List (Nat × Nat) := C.map fun b => (b.x, b.g)
theorem Sat.initCaps {w : World} {N : Nat} {avs : List AV} {l : List Inp} {C : List Cb} (hr : allRd w l) (hlo : lowI l) (hp : pairsCb C) (hf : allCb (Cb.fit w l) C)
    (ha : allCapss l C avs) {args : Array Value} (hargs : args = (avs.map (AV.conc (capsV l C))).toArray) (hN : avs.length ≤ N) :
    Sat ⟨w, capsB C, N⟩ (capsV l C) ⟨argsT avs, capsM l C⟩ { tmps := args ++ Array.replicate (N - args.size) undef, defers := [] } w := by
  have hfit := allCb_mem hf
  have split : ∀ x, (∃ b ∈ C, b.x = x) ∨ ∀ b ∈ C, b.x ≠ x := fun x => by
    by_cases h : ∃ b ∈ C, b.x = x
    · exact .inl h
    · exact .inr fun b hb e => h ⟨b, hb, e⟩
  have low : ∀ x b, lkM (inpsM l) x = some b → ∀ c ∈ C, c.x ≠ x := fun x b hx c hc e => by
    have h1 := low_at hlo hx
    have h2 := (hfit c hc).1
    omega
  have hin : ∀ x A len cap, inpIn l x A len → AC.ok (capsV l C) (capsM l C) (.inp x A len cap) := by
    intro x A len cap h
    have h1 := inp_ok (cap := cap) hr h
    obtain ⟨b, hb⟩ := Option.isSome_iff_exists.1 h1.1
    obtain ⟨e1, e2⟩ := caps_none (l := l) (low x b hb)
    exact ⟨by rw [e2]; exact h1.1, fun h0 => by rw [e1]; exact h1.2 h0⟩
  have hAC : ∀ a : AC, a.caps l C → a.ok (capsV l C) (capsM l C) := by
    intro a h
    cases a with
    | k v => trivial
    | inp x A len cap => exact hin x A len cap h
    | ptr x i sz off =>
      obtain ⟨b, hb, rfl⟩ := nameIn_mem h
      show (capsM l C b.x).isSome = true
      rw [(caps_at hp hb).2]; rfl
    | _ => cases h
  have hACs : ∀ cs : List AC, allACs l C cs → ∀ a ∈ cs, a.ok (capsV l C) (capsM l C) := by
    intro cs
    induction cs with
    | nil => intro _ a ha; cases ha
    | cons b r ih =>
      intro h a ha
      cases ha with
      | head => exact hAC _ h.1
      | tail _ ha => exact ih h.2 a ha
  refine ⟨⟨Fr.refl _ _, fun p hp' => ?_, fun x b hx => ?_, fun x y b c hx hy hb hc hne => ?_⟩, rfl, ?_, fun j => ?_⟩
  · obtain ⟨b, hb, rfl⟩ := List.mem_map.1 hp'
    exact ⟨(caps_at hp hb).1, by have := (hfit b hb).1; simp only; omega⟩
  · have hx : capsM l C x = some b := hx
    rcases split x with ⟨c, hc, rfl⟩ | hno
    · obtain ⟨e1, e2⟩ := caps_at (l := l) hp hc
      rw [e2] at hx
      injection hx with hx
      subst hx
      obtain ⟨_, _, h3, h4⟩ := hfit c hc
      refine ⟨by rw [e1], .inr (by rw [e1]; exact List.mem_map.2 ⟨c, hc, rfl⟩), by rw [e1, conc_inps h3 (capsV l C) (fun _ => (0, 0))]; exact h4, fun a ha => ?_⟩
      have := allAC_mem' h3 a ha
      cases a with
      | k v => trivial
      | inp x A len cap => exact hin x A len cap this
      | _ => cases this
    · obtain ⟨e1, e2⟩ := caps_none (l := l) hno
      rw [e2] at hx
      obtain ⟨A, n, sz, el, rfl, h2, h3⟩ := lkM_inps hx hr
      intro h0
      obtain ⟨b, o, rfl, h4, h5⟩ := h2 h0
      rw [e1, h3]
      exact ⟨h4, h5⟩
  · have hx : capsM l C x = some b := hx
    have hy : capsM l C y = some c := hy
    rcases split x with ⟨d, hd, rfl⟩ | hno
    · obtain ⟨e1, e2⟩ := caps_at (l := l) hp hd
      rcases split y with ⟨e, he, rfl⟩ | hno2
      · rw [e1, (caps_at (l := l) hp he).1]
        rcases pairs_inj hp d hd e he with rfl | h
        · exact absurd rfl hne
        · exact h.2
      · obtain ⟨e3, e4⟩ := caps_none (l := l) hno2
        rw [e4] at hy
        obtain ⟨A, n, sz, el, rfl, h2, h3⟩ := lkM_inps hy hr
        rw [e1, e3]
        exact (apartI_at (hfit d hd).2.1 hy hr hc).symm
    · obtain ⟨e3, e4⟩ := caps_none (l := l) hno
      rw [e4] at hx
      obtain ⟨A, n, sz, el, rfl, _⟩ := lkM_inps hx hr
      exact hb.elim
  · subst hargs
    simp
    omega
  · show (argsT avs j).rep _ _ _
    unfold argsT
    cases hj : avs[j]? with
    | none => trivial
    | some a =>
      have hlt : j < avs.length := (List.getElem?_eq_some_iff.1 hj).1
      have hmem : a ∈ avs := List.mem_of_getElem? hj
      have hin : a.caps l C := by
        clear hj hlt hargs hN
        induction avs with
        | nil => cases hmem
        | cons b r ih =>
          cases hmem with
          | head => exact ha.1
          | tail _ hm => exact ih ha.2 hm
      refine ⟨?_, ?_⟩
      · cases a with
        | c a => exact hAC a hin
        | agg cs => exact hACs cs hin
      · subst hargs
        simp only [Array.getD_eq_getD_getElem?]
        rw [Array.getElem?_append_left (by simpa using hlt)]
        simp [hj]
section
variable {P : Program} {T : Tab}
def allKept (m : Mem) : List Cb → Prop
  | [] => True
  | b :: r => m b.x = some (.var b.ty b.cells) ∧ allKept m r
theorem allKept_mem {m : Mem} {C : List Cb} (h : allKept m C) : ∀ b ∈ C, m b.x = some (.var b.ty b.cells) := by
  induction C with
  | nil => intro b hb; cases hb
  | cons c r ih =>
    intro b hb
    cases hb with
    | head => exact h.1
    | tail _ hb => exact ih h.2 b hb
def endCaps (T : Tab) (fn : Func) (v : Value) (C : List Cb) : Exit → St → Prop := fun e st => (e = .ret ∨ e = .normal) ∧ resP T st fn.results.toList = .mk v ∧ allKept st.m C
theorem enterCaps (hT : Tab.fine P T) {f : FuncId} {fn : Func} {c : Code} {args : Array Value} {w : World} {v : Value} (C : List Cb) (hf : P.funcs[f]? = some fn) (hb : fn.body = some c) (N : Nat) (hN : fn.ntmps = N) (avs : List AV) (l : List Inp) (hr : allRd w l) (hlo : lowI l) (hp : pairsCb C) (hfit : allCb (Cb.fit w l) C)
    (hargs : args = (avs.map (AV.conc (capsV l C))).toArray) (hl : Nat.ble avs.length N = true) (ha : allCapss l C avs)
    (h : G P ⟨w, capsB C, N⟩ (endCaps T fn v C) c ⟨argsT avs, capsM l C⟩) : Calls P f args w fun e w' => e = .returned v ∧ Below w.heap.size w w' := by
  subst hN
  refine enter (E := ⟨w, capsB C, fn.ntmps⟩) hf hb (capsV l C) (Sat.initCaps hr hlo hp hfit ha hargs (Nat.le_of_ble_eq_true hl)) (h.mono fun e st hk => ⟨hk.1, fun ρ a w' hs => ?_⟩)
  obtain ⟨_, h1, h2⟩ := hk
  refine ⟨v, results_run hT hs h1, rfl, ?_⟩
  have hfr := hs.mem.fr
  exact ⟨hfr.os, hfr.tape, hfr.output, hfr.size, fun k hk => by
    by_cases e : ∃ b ∈ C, b.g = k
    · obtain ⟨b, hb, rfl⟩ := e
      obtain ⟨_, _, h4, _⟩ := hs.mem.ok b.x _ (allKept_mem h2 b hb)
      have hρ := (hs.mem.bo (b.x, b.g) (List.mem_map.2 ⟨b, hb, rfl⟩)).1
      simp only at hρ
      obtain ⟨_, _, h5, h6⟩ := allCb_mem hfit b hb
      rw [hρ, conc_inps h5 ρ (fun _ => (0, 0))] at h4
      rw [h4, h6]
    · exact hfr.block k hk fun hm => by
        obtain ⟨q, hq, e2⟩ := List.mem_map.1 hm
        obtain ⟨b, hb, e3⟩ := List.mem_map.1 hq
        exact e ⟨b, hb, by rw [← e2, ← e3]⟩⟩
theorem endCaps.ret {fn : Func} {v u : Value} {C : List Cb} {st : St} (h : resP T st fn.results.toList = .mk u) (e : u = v) (h2 : allKept st.m C) : endCaps T fn v C .ret st := ⟨.inl rfl, h.trans (congrArg VR.mk e), h2⟩
/-- What a variable of ours holds, as a captured variable. -/
theorem SatM.fit {E : Env} {ρ : Val} {m : Mem} {w : World} (h : SatM E ρ m w) {x : Nat} {ty : TypeId} {cells : List AC} (hx : m x = some (.var ty cells)) (y : Nat) (hy : 1900 ≤ y) (l : List Inp) (ha : apartI (ρ x).1 l) (hc : allAC l cells) : Cb.fit w l ⟨y, (ρ x).1, ty, cells⟩ := by
  refine ⟨hy, ha, hc, ?_⟩
  have := (h.ok x _ hx).2.2.1
  rw [conc_inps hc ρ (fun _ => (0, 0))] at this
  exact this
/-- A row that is only read lies apart from a block of ours. -/
theorem SatM.apart {E : Env} {ρ : Val} {m : Mem} {w : World} (h : SatM E ρ m w) {x q n sz len cap : Nat} {b : Blk} {A : Option Addr} {el : Nat → List Value} (hx : m x = some b) (ho : b.own) (hq : m q = some (.ro sz n el)) (hok : AC.ok ρ m (.inp q A len cap)) (hl : len ≤ n) (hne : x ≠ q) : 0 < len → ∀ a, A = some a → a.block ≠ (ρ x).1 := by
  intro h0 a ha
  have e := hok.2 h0
  rw [ha] at e
  injection e with e
  subst e
  have hlive : Blk.live (.ro sz n el) := by show 0 < n; omega
  exact (h.ne x q b _ hx hq ho hlive hne).symm
/-- A part of a row that is only read. -/
theorem SatM.rdRo {E : Env} {ρ : Val} {m : Mem} {w : World} (h : SatM E ρ m w) {x sz n : Nat} {el : Nat → List Value} (hx : m x = some (.ro sz n el)) (i0 len : Nat) (hl : i0 + len ≤ n) :
    RdRow w (some ⟨(ρ x).1, (ρ x).2 + i0 * sz, none⟩) len sz (fun i => el (i0 + i)) := by
  intro h0
  obtain ⟨h1, h2⟩ := h.ok x _ hx (by omega)
  refine ⟨_, _, rfl, h1, fun i hi => ⟨(h2 _ (by omega)).1, fun j hj => ?_⟩⟩
  rw [← (h2 (i0 + i) (by omega)).2 j hj, Nat.add_mul]
  congr 2
  omega
end
section
variable {P : Program} {E : Env} {K : Exit → St → Prop} {T : Tab}
/-- A name for a row of which nothing is said. -/
theorem SatM.newNil {ρ : Val} {m : Mem} {w : World} (h : SatM E ρ m w) {x sz : Nat} {el : Nat → List Value} (hx : m x = none) : SatM E ρ (up m x (some (.ro sz 0 el))) w := by
  have old : ∀ y b, up m x (some (.ro sz 0 el)) y = some b → (y = x ∧ b = .ro sz 0 el) ∨ (y ≠ x ∧ m y = some b) := by
    intro y b hy
    by_cases e : y = x
    · subst e
      rw [up_same] at hy
      injection hy with hy
      exact .inl ⟨rfl, hy.symm⟩
    · rw [up_other _ _ e] at hy
      exact .inr ⟨e, hy⟩
  refine ⟨h.fr, h.bo, fun y b hy => ?_, fun y z c d hy hz hc hd hne => ?_⟩
  · rcases old y b hy with ⟨rfl, rfl⟩ | ⟨e, hy⟩
    · intro h0; omega
    · exact (h.ok y b hy).far (fun z hz => isSome_up z hz) (Nat.le_refl _) fun _ => rfl
  · rcases old y c hy with ⟨rfl, rfl⟩ | ⟨e, hy⟩
    · exact hc.elim
    · rcases old z d hz with ⟨rfl, rfl⟩ | ⟨e2, hz⟩
      · exact absurd hd (Nat.lt_irrefl 0)
      · exact h.ne y z c d hy hz hc hd hne
/-- A call under a guard that answers a row, by itself or in a struct. -/
theorem GO.callTabG {ops : Array Oper} {rest : List Oper} {o : Oper} {c : Call} {j : Nat} {want cb : Bool} {f : FuncId} {avs : List AV} {caps : List Cap} {t : Nat → TV} {m : Mem} {x n sz : Nat} {el : Nat → List Value} (p : Option (List Value × List Value)) (hd : o.dst = some x) (hx : m x = none) (hxb : Nat.blt x 1000 = true) (hdN : Nat.blt x E.N = true)
    (hg : o.guard = some (j, want)) (hb : guardB ops t j want = some cb) (hop : o.op = .call c) (hob : AllP (stripObs t j want cb (slotsOf o.op.operands.toList)))
    (he : callE (tG t j want (slotsOf o.op.operands.toList)) c = .mk f avs caps)
    (hcf : ∀ (args : Array Value) (w : World), (callFunc f args).run P w = .ok (.enter f args) w)
    (hc : cb = true → ∀ ρ w, SatM E ρ m w → (∀ v ∈ avs, v.ok ρ m) → Calls P f (avs.map (AV.conc ρ) ++ caps.map (Cap.conc ρ)).toArray w fun e w' => ∃ A k, e = .returned (rowIn p (.slice A n k)) ∧ RdNew w w' A n sz el ∧ Below w.heap.size w w')
    (k : ∀ A k, GO P E ops K rest ⟨up t x (.grd j want cb (rowAV p (.inp x A n k))), up m x (some (.ro sz (bif cb then n else 0) el))⟩) : GO P E ops K (o :: rest) ⟨t, m⟩ := by
  intro ρ a w hs
  have hw := wanted_cond (ops := ops) hs hg hb
  unfold wpList
  rw [hw]
  cases hcb : cb with
  | true =>
    subst hcb
    rw [if_pos rfl]
    refine .inl ?_
    obtain ⟨hr, hok, hok2⟩ := call_run (hs.tG hob rfl) hop he hcf
    unfold Oper.wp
    rw [hr]
    refine (hc rfl ρ w hs.mem hok).mono ?_
    rintro e w' ⟨A, k1, rfl, hn, hbl⟩
    obtain ⟨ρ', h1, h2, h3⟩ := hs.mem.newRo hbl (cap := k1) hx (by simpa [Nat.blt_eq] using hxb) hn
    have hmv := hs.move h2 (fun y hy => isSome_up y hy) h1
    refine k A k1 ρ' _ w' ?_
    rw [hd]
    exact hmv.put (by simpa [Nat.blt_eq] using hdN) ⟨fun _ => ⟨rowAV_ok.2 h3, (rowAV_conc ρ' p (.inp x A n k1)).symm⟩, fun hf => by cases hf⟩
  | false =>
    subst hcb
    rw [if_neg (by simp)]
    have hmv := hs.move (hs.mem.newNil (x := x) (sz := sz) (el := el) hx) (fun y hy => isSome_up y hy) (fun _ _ => rfl)
    refine k none 0 ρ _ w ?_
    rw [hd]
    exact hmv.put (by simpa [Nat.blt_eq] using hdN) ⟨fun hf => (by cases hf), fun _ => rfl⟩
theorem GI.weaken {c : Code} {st st' : St} (hl : St.le E st' st) (h : GI P E K c st') : GI P E K c st := fun ρ a w hs => h ρ a w (hl ρ a w hs)
end
end Go.Sx
/- Chapter 35: cuts, flows, the copy of a run. -/
set_option linter.unusedVariables false
set_option linter.unusedSimpArgs false
set_option maxRecDepth 8000
set_option maxHeartbeats 1000000
namespace Go.Proofs.Ytmdgaifonpgojaa
open Go.Sx Go.RowKit
structure Cut where
  k : Int
  a : Int
  m : Int
def cut0 : Cut := ⟨0, 0, 0⟩
def elC (l : List Cut) (i : Nat) : List Value := [I (l.getD i cut0).k, I (l.getD i cut0).a, I (l.getD i cut0).m]
abbrev Fl := Int × Int
def elFl (l : List Fl) (i : Nat) : List Value := [I (l.getD i (0, 0)).1, I (l.getD i (0, 0)).2]
/-- charge, feints and cuts -/
def flowsL (al ma fa fm : Int) (l : List Cut) : List Fl := (al, ma) :: (fa, fm) :: l.map fun c => (c.a, c.m)
theorem apC : ApT Try.prog 22 49 3 24 (.agg #[I 0, I 0, I 0]) := ⟨by kernel_rfl, by kernel_rfl, rfl, by decide⟩
theorem apF : ApT Try.prog 58 44 2 16 (.agg #[I 0, I 0]) := ⟨by kernel_rfl, by kernel_rfl, rfl, by decide⟩
theorem cloneC_any (A : Option Addr) (c : Nat) (l : List Cut) (w : World) (hl : RdRow w A l.length 3 (elC l)) (hm : l.length ≤ 17) (hA : A = none → l.length = 0) :
    Calls Try.prog 31 #[.slice A l.length c] w fun e w' => ∃ v, e = .returned v ∧ RdOwn w w' v 49 l.length 3 (elC l) ∧ Below w.heap.size w w' := by
  refine enterOwn tfine 49 l.length 3 (elC l) Try.func31 rfl 8 Try.ntmps31 [.c (.inp 1000 A l.length c)] [⟨1000, A, 3, l.length, elC l⟩] rfl rfl ⟨hl, trivial⟩ ⟨.inl ⟨rfl, rfl, rfl⟩, trivial⟩ ?_
  refine G.seqR tfine rfl trivial ?_
  refine G.seq (G.seqR tfine rfl trivial ?_)
  refine G.cond rfl (fun h => ?_) (fun h => ?_)
  · refine G.seqR tfine rfl trivial ?_
    have : A = none := by cases A <;> simp at h ⊢
    refine G.ret (endOwn.ret rfl ⟨rfl, hA this⟩)
  refine G.skip ?_
  refine G.seqC tfine rfl trivial ?_
  refine GO.emptySlice tfine rfl rfl rfl rfl rfl rfl rfl fun A0 => ?_
  refine GO.more tfine rfl trivial ?_
  refine GO.appendNew (elC l) apC rfl rfl rfl rfl rfl rfl rfl rfl (RowOf.ro rfl) (fun k hk => rfl) (fun i hi u hu => by simp [elC] at hu; rcases hu with rfl | rfl | rfl <;> rfl) (by unfold maxLen; omega) (by omega) (fun h0 => ?_) fun h0 c' hc' => ?_
  · refine GO.fin tfine rfl trivial ?_
    exact G.ret (endOwn.ret rfl ⟨rfl, h0⟩)
  · refine GO.fin tfine rfl trivial ?_
    exact G.ret (endOwn.ret rfl ⟨rfl, rfl, rfl, rfl, rfl, Nat.le_refl _, fun i hi => rfl⟩)
theorem cp_any (id day al ma fa fm : Int) (A : Option Addr) (c : Nat) (l : List Cut) (w : World) (hl : RdRow w A l.length 3 (elC l)) (hm : l.length ≤ 17) (hA : A = none → l.length = 0) :
    Calls Try.prog 13 #[.agg #[I id, I day, I al, I ma, I fa, I fm, .slice A l.length c]] w fun e w' => ∃ A' c', e = .returned (rowIn (some ([I id, I day, I al, I ma, I fa, I fm], [])) (.slice A' l.length c')) ∧ RdNew w w' A' l.length 3 (elC l) ∧ Below w.heap.size w w' := by
  refine enterTabP tfine ([I id, I day, I al, I ma, I fa, I fm], []) l.length 3 (elC l) Try.func13 rfl 8 Try.ntmps13 [.agg [.k (I id), .k (I day), .k (I al), .k (I ma), .k (I fa), .k (I fm), .inp 1000 A l.length c]] [⟨1000, A, 3, l.length, elC l⟩] rfl rfl ⟨hl, trivial⟩ ⟨⟨trivial, trivial, trivial, trivial, trivial, trivial, .inl ⟨rfl, rfl, rfl⟩, trivial⟩, trivial⟩ ?_
  refine G.seqR tfine rfl trivial ?_
  refine G.seqC tfine rfl trivial ?_
  refine GO.callOwn rfl rfl rfl rfl rfl rfl rfl (fun args w => Try.call31 args w) (fun ρ w hs hok => cloneC_any A c l w (hs.row (cap := c) rfl (hok _ List.mem_cons_self)) hm hA) (fun h0 A1 k1 => ?_) (fun h0 k1 => ?_)
  · refine GO.fin tfine rfl trivial ?_
    refine G.seqR tfine rfl trivial ?_
    exact G.ret (endTabP.ret rfl ⟨_, rfl, h0.symm, h0⟩)
  · refine GO.fin tfine rfl trivial ?_
    refine G.seqR tfine rfl trivial ?_
    exact G.ret (endTabP.ret rfl ⟨_, rfl, rfl, rfl, rfl, by simp, fun i hi => by simp⟩)
theorem flowsL_len (al ma fa fm : Int) (l : List Cut) : (flowsL al ma fa fm l).length = l.length + 2 := by simp [flowsL]
theorem flowsL_get (al ma fa fm : Int) (l : List Cut) (i : Nat) (h : i < l.length) : (flowsL al ma fa fm l).getD (i + 2) (0, 0) = ((l.getD i cut0).a, (l.getD i cut0).m) := by
  simp only [flowsL, List.getD_eq_getElem?_getD, List.getElem?_cons_succ, List.getElem?_map, List.getElem?_eq_getElem h, Option.map_some, Option.getD_some]
theorem flows_any (id day al ma fa fm : Int) (A : Option Addr) (c : Nat) (l : List Cut) (w : World) (hl : RdRow w A l.length 3 (elC l)) (hm : l.length ≤ 17) :
    Calls Try.prog 39 #[.agg #[I id, I day, I al, I ma, I fa, I fm, .slice A l.length c]] w fun e w' => ∃ A' c', e = .returned (.slice A' (l.length + 2) c') ∧ l.length + 2 ≤ c' ∧ RdNew w w' A' (l.length + 2) 2 (elFl (flowsL al ma fa fm l)) ∧ Below w.heap.size w w' := by
  refine enterRowC tfine (l.length + 2) 2 (elFl (flowsL al ma fa fm l)) Try.func39 rfl 34 Try.ntmps39 [.agg [.k (I id), .k (I day), .k (I al), .k (I ma), .k (I fa), .k (I fm), .inp 1000 A l.length c]] [⟨1000, A, 3, l.length, elC l⟩] rfl rfl ⟨hl, trivial⟩ ⟨⟨trivial, trivial, trivial, trivial, trivial, trivial, .inl ⟨rfl, rfl, rfl⟩, trivial⟩, trivial⟩ ?_
  refine G.seqR tfine rfl trivial ?_
  refine G.seqR tfine rfl trivial ?_
  refine G.seq (G.seqR tfine rfl trivial ?_)
  refine G.asRow (j := 3) (y := 31) [I al, I ma, I fa, I fm] [(18, .v (.c (.inp 1000 A l.length c))), (19, .v (.c (.k (I l.length)))), (20, .v (.c (.k (I 0))))] [(1000, .ro 3 l.length (elC l))] (St.le_of rfl ⟨⟨_, rfl, Blk.le_refl _⟩, trivial⟩ ⟨rfl, rfl, rfl, trivial⟩) rfl rfl rfl rfl rfl ⟨rfl, (show (1000 : Nat) ≠ 16 by decide), trivial⟩ rfl ?_
  refine G.block (G.loop (fun x : Nat × Nat => St.of [(3, .v (.c (.slc 31 0 2 (x.1 + 2) x.2))), (18, .v (.c (.inp 1000 A l.length c))), (19, .v (.c (.k (I l.length)))), (20, .v (.c (.k (I x.1))))] [(31, .arr 44 2 (x.1 + 2) (elFl (flowsL al ma fa fm l)) ((x.2 - (x.1 + 2)) * 2)), (1000, .ro 3 l.length (elC l))])
    (fun x => x.1 ≤ l.length ∧ x.1 + 2 ≤ x.2) (fun x => l.length - x.1) (0, 2) ⟨by simp, by simp⟩ (St.le_of rfl ⟨⟨_, rfl, rfl, rfl, Nat.le_refl _, fun i hi => ?_, Nat.le_refl _⟩, ⟨_, rfl, Blk.le_refl _⟩, trivial⟩ ⟨rfl, rfl, rfl, rfl, trivial⟩) ?_)
  · match i, hi with
    | 0, _ => rfl
    | 1, _ => rfl
  rintro ⟨k, cp⟩ ⟨hk, hc⟩
  dsimp only at hk hc ⊢
  refine G.seqR tfine rfl trivial ?_
  refine G.seq (G.cond (b := decide ((k : Int) < (l.length : Int))) rfl (fun h => ?_) (fun h => ?_))
  rotate_left
  · have h := of_decide_eq_false h
    have : k = l.length := by omega
    subst this
    refine G.exit ?_
    refine G.seqR tfine rfl trivial ?_
    exact G.ret (endRowC.ret rfl ⟨rfl, rfl, rfl, by simp, fun i hi => by simp⟩ hc)
  have h := of_decide_eq_true h
  have hlt : k < l.length := by omega
  refine G.skip ?_
  refine G.seq (G.block ?_)
  refine G.seqR tfine rfl ⟨by simpa using hlt, by omega, by omega, trivial⟩ ?_
  rw [Int.toNat_natCast]
  refine G.regC tfine rfl trivial ?_
  refine GO.appendOwn [I (l.getD k cut0).a, I (l.getD k cut0).m] [(18, .v (.c (.inp 1000 A l.length c))), (19, .v (.c (.k (I l.length)))), (20, .v (.c (.k (I k))))] [(1000, .ro 3 l.length (elC l))] apF rfl rfl rfl rfl rfl rfl rfl rfl (Nat.le_refl _) rfl rfl rfl (fun u hu => ?_) (St.le_of rfl ⟨⟨_, rfl, Blk.le_refl _⟩, trivial⟩ ⟨rfl, rfl, rfl, trivial⟩) (subM.fr ⟨rfl, (show (1000 : Nat) ≠ 31 by decide), trivial⟩) rfl (fun k hk => rfl) (by unfold maxLen; omega) (by omega) fun c' hc' => ?_
  · simp at hu
    rcases hu with rfl | rfl <;> rfl
  refine GO.fin tfine rfl trivial ?_
  refine G.reg tfine rfl trivial ?_
  rw [IntWalk.i64_in _ (by omega)]
  refine ⟨(k + 1, c'), ⟨by simp only; omega, by simp only; omega⟩, (by show l.length - (k + 1) < l.length - k; omega), St.le_of rfl ⟨⟨_, rfl, rfl, rfl, Nat.le_refl _, fun i hi => ?_, Nat.le_refl _⟩, ⟨_, rfl, Blk.le_refl _⟩, trivial⟩ ⟨rfl, rfl, rfl, by simp [up, I], trivial⟩⟩
  simp only at hi
  by_cases e : i = k + 2
  · subst e
    rw [elN_eq]
    simp only [elFl, flowsL_get _ _ _ _ _ _ hlt]
  · rw [elN_lt (by omega)]
end Go.Proofs.Ytmdgaifonpgojaa
/- Chapter 35: sums, searches and the faults of a run. -/
set_option linter.unusedVariables false
set_option linter.unusedSimpArgs false
set_option maxRecDepth 8000
set_option maxHeartbeats 1000000
namespace Go.Proofs.Ytmdgaifonpgojaa
open Go.Sx Go.RowKit
def run_flow__ranges (x0_0 : Int) (x0_1 : Int) : Bool := ((((decide (x0_0 ≥ (0 : Int))) && (decide (x0_0 ≤ (10737418240000 : Int)))) && (decide (x0_1 ≥ (0 : Int)))) && (decide (x0_1 ≤ (128849018880000 : Int))))
theorem run_flow__ranges_any (x0_0 : Int) (x0_1 : Int) (w : World) : Calls Try.prog 42 #[.agg #[I x0_0, I x0_1]] w fun e w' => e = .returned (.bool (run_flow__ranges x0_0 x0_1)) ∧ Below w.heap.size w w' := by
  refine enterPlain tfine Try.func42 rfl 21 Try.ntmps42 [.agg [.k (I x0_0), .k (I x0_1)]] [] rfl rfl trivial ⟨⟨trivial, trivial, trivial⟩, trivial⟩ ?_
  refine G.seqR tfine rfl ?_ ?_
  · first | trivial | (simp [AllP, condB]; done) | (simp only [AllP]; and_intros <;> first | trivial | decide | omega) | (simp [AllP, condB]; intros; and_intros <;> first | assumption | omega) | (simp [AllP, condB]; intros; simp_all; done) | (simp [AllP, condB]; intros; simp_all; omega) | (simp [AllP, condB]; omega)
  refine G.seqR tfine rfl ?_ ?_
  · first | trivial | (simp [AllP, condB]; done) | (simp only [AllP]; and_intros <;> first | trivial | decide | omega) | (simp [AllP, condB]; intros; and_intros <;> first | assumption | omega) | (simp [AllP, condB]; intros; simp_all; done) | (simp [AllP, condB]; intros; simp_all; omega) | (simp [AllP, condB]; omega)
  refine G.ret (endK.ret rfl ?_)
  first | (rw [run_flow__ranges]; done) | (rw [run_flow__ranges]; rfl)
def run_Check_2_1 (x0_0 : Int) (x0_1 : Int) : Bool := ((x0_0 == (0 : Int)) || (decide (x0_1 > (0 : Int))))
theorem run_Check_2_1_any (x0_0 : Int) (x0_1 : Int) (w : World) : Calls Try.prog 44 #[.agg #[I x0_0, I x0_1]] w fun e w' => e = .returned (.bool (run_Check_2_1 x0_0 x0_1)) ∧ Below w.heap.size w w' := by
  refine enterPlain tfine Try.func44 rfl 11 Try.ntmps44 [.agg [.k (I x0_0), .k (I x0_1)]] [] rfl rfl trivial ⟨⟨trivial, trivial, trivial⟩, trivial⟩ ?_
  refine G.seqR tfine rfl ?_ ?_
  · first | trivial | (simp [AllP, condB]; done) | (simp only [AllP]; and_intros <;> first | trivial | decide | omega) | (simp [AllP, condB]; intros; and_intros <;> first | assumption | omega) | (simp [AllP, condB]; intros; simp_all; done) | (simp [AllP, condB]; intros; simp_all; omega) | (simp [AllP, condB]; omega)
  refine G.seqR tfine rfl ?_ ?_
  · first | trivial | (simp [AllP, condB]; done) | (simp only [AllP]; and_intros <;> first | trivial | decide | omega) | (simp [AllP, condB]; intros; and_intros <;> first | assumption | omega) | (simp [AllP, condB]; intros; simp_all; done) | (simp [AllP, condB]; intros; simp_all; omega) | (simp [AllP, condB]; omega)
  refine G.ret (endK.ret rfl ?_)
  first | (rw [run_Check_2_1]; done) | (rw [run_Check_2_1]; rfl)
def spileref35_amounts (x0 : Int) (x1 : Int) : Bool := ((((decide (x0 ≥ (0 : Int))) && (decide (x0 ≤ (10737418240000 : Int)))) && (decide (x1 ≥ (0 : Int)))) && (decide (x1 ≤ (128849018880000 : Int))))
theorem spileref35_amounts_any (x0 : Int) (x1 : Int) (w : World) : Calls Try.prog 48 #[I x0, I x1] w fun e w' => e = .returned (.bool (spileref35_amounts x0 x1)) ∧ Below w.heap.size w w' := by
  refine enterPlain tfine Try.func48 rfl 19 Try.ntmps48 [.c (.k (I x0)), .c (.k (I x1))] [] rfl rfl trivial ⟨trivial, trivial, trivial⟩ ?_
  refine G.seqR tfine rfl ?_ ?_
  · first | trivial | (simp [AllP, condB]; done) | (simp only [AllP]; and_intros <;> first | trivial | decide | omega) | (simp [AllP, condB]; intros; and_intros <;> first | assumption | omega) | (simp [AllP, condB]; intros; simp_all; done) | (simp [AllP, condB]; intros; simp_all; omega) | (simp [AllP, condB]; omega)
  refine G.seqR tfine rfl ?_ ?_
  · first | trivial | (simp [AllP, condB]; done) | (simp only [AllP]; and_intros <;> first | trivial | decide | omega) | (simp [AllP, condB]; intros; and_intros <;> first | assumption | omega) | (simp [AllP, condB]; intros; simp_all; done) | (simp [AllP, condB]; intros; simp_all; omega) | (simp [AllP, condB]; omega)
  refine G.ret (endK.ret rfl ?_)
  first | (rw [spileref35_amounts]; done) | (rw [spileref35_amounts]; rfl)
def spileref35_size (x0 : Int) : Int := (if (IntKind.i64.wrap (0 - x0)) > x0 then (IntKind.i64.wrap (0 - x0)) else x0)
theorem spileref35_size_any (x0 : Int) (w : World) : Calls Try.prog 53 #[I x0] w fun e w' => e = .returned (I (spileref35_size x0)) ∧ Below w.heap.size w w' := by
  refine enterPlain tfine Try.func53 rfl 7 Try.ntmps53 [.c (.k (I x0))] [] rfl rfl trivial ⟨trivial, trivial⟩ ?_
  refine G.seqR tfine rfl ?_ ?_
  · first | trivial | (simp [AllP, condB]; done) | (simp only [AllP]; and_intros <;> first | trivial | decide | omega) | (simp [AllP, condB]; intros; and_intros <;> first | assumption | omega) | (simp [AllP, condB]; intros; simp_all; done) | (simp [AllP, condB]; intros; simp_all; omega) | (simp [AllP, condB]; omega)
  refine G.seqR tfine rfl ?_ ?_
  · first | trivial | (simp [AllP, condB]; done) | (simp only [AllP]; and_intros <;> first | trivial | decide | omega) | (simp [AllP, condB]; intros; and_intros <;> first | assumption | omega) | (simp [AllP, condB]; intros; simp_all; done) | (simp [AllP, condB]; intros; simp_all; omega) | (simp [AllP, condB]; omega)
  refine G.ret (endK.ret rfl ?_)
  first | (rw [spileref35_size]; done) | (rw [spileref35_size]; rfl)
def spileref35_Few (x0_0 : Int) (x0_1 : Int) (x0_2 : Int) (x0_3 : Int) (x0_4 : Int) (x0_5 : Int) (l0_6 : List Cut) : Bool := (decide ((l0_6.length : Int) ≤ (17 : Int)))
theorem spileref35_Few_any (x0_0 : Int) (x0_1 : Int) (x0_2 : Int) (x0_3 : Int) (x0_4 : Int) (x0_5 : Int) (A0_6 : Option Addr) (c0_6 : Nat) (l0_6 : List Cut) (w : World) (hl_l0_6 : RdRow w A0_6 l0_6.length 3 (elC l0_6)) : Calls Try.prog 11 #[.agg #[I x0_0, I x0_1, I x0_2, I x0_3, I x0_4, I x0_5, .slice A0_6 l0_6.length c0_6]] w fun e w' => e = .returned (.bool (spileref35_Few x0_0 x0_1 x0_2 x0_3 x0_4 x0_5 l0_6)) ∧ Below w.heap.size w w' := by
  refine enterPlain tfine Try.func11 rfl 7 Try.ntmps11 [.agg [.k (I x0_0), .k (I x0_1), .k (I x0_2), .k (I x0_3), .k (I x0_4), .k (I x0_5), .inp 1000 A0_6 l0_6.length c0_6]] [⟨1000, A0_6, 3, l0_6.length, elC l0_6⟩] rfl rfl ⟨hl_l0_6, trivial⟩ ⟨⟨trivial, trivial, trivial, trivial, trivial, trivial, .inl ⟨rfl, rfl, rfl⟩, trivial⟩, trivial⟩ ?_
  refine G.seqR tfine rfl ?_ ?_
  · first | trivial | (simp [AllP, condB]; done) | (simp only [AllP]; and_intros <;> first | trivial | decide | omega) | (simp [AllP, condB]; intros; and_intros <;> first | assumption | omega) | (simp [AllP, condB]; intros; simp_all; done) | (simp [AllP, condB]; intros; simp_all; omega) | (simp [AllP, condB]; omega)
  refine G.seqR tfine rfl ?_ ?_
  · first | trivial | (simp [AllP, condB]; done) | (simp only [AllP]; and_intros <;> first | trivial | decide | omega) | (simp [AllP, condB]; intros; and_intros <;> first | assumption | omega) | (simp [AllP, condB]; intros; simp_all; done) | (simp [AllP, condB]; intros; simp_all; omega) | (simp [AllP, condB]; omega)
  refine G.ret (endK.ret rfl ?_)
  first | (rw [spileref35_Few]; done) | (rw [spileref35_Few]; rfl)
theorem take_fold {α β : Type} (f : β → α → β) (s : β) (l : List α) (d : α) (k : Nat) (h : k < l.length) : (l.take (k + 1)).foldl f s = f ((l.take k).foldl f s) (l.getD k d) := by
  rw [List.take_add_one, List.getElem?_eq_getElem h, List.foldl_append, List.getD_eq_getElem?_getD, List.getElem?_eq_getElem h]
  rfl
def addF (s f : Fl) : Fl := (IntKind.i64.wrap (s.1 + f.1), IntKind.i64.wrap (s.2 + f.2))
def sumF (l : List Fl) : Fl := l.foldl addF (0, 0)
theorem sum_any (A : Option Addr) (c n : Nat) (l : List Fl) (w : World) (hn : n = l.length) (hl : RdRow w A n 2 (elFl l)) (hm : n ≤ 4611686018427387904) :
    Calls Try.prog 38 #[.slice A n c] w fun e w' => e = .returned (.agg #[I (sumF l).1, I (sumF l).2]) ∧ Below w.heap.size w w' := by
  subst hn
  refine enterPlain tfine Try.func38 rfl 26 Try.ntmps38 [.c (.inp 1000 A l.length c)] [⟨1000, A, 2, l.length, elFl l⟩] rfl rfl ⟨hl, trivial⟩ ⟨.inl ⟨rfl, rfl, rfl⟩, trivial⟩ ?_
  refine G.seqR tfine rfl trivial ?_
  refine G.seqR tfine rfl trivial ?_
  refine G.seq (G.seqR tfine rfl trivial ?_)
  refine G.block (G.loop (fun k : Nat => St.of [(2, .v (.c (.ptr 2 0 0 0))), (3, .v (.c (.ptr 3 0 0 0))), (6, .v (.c (.inp 1000 A l.length c))), (7, .v (.c (.k (I l.length)))), (8, .v (.c (.k (I k))))] [(2, .var 44 [.k (I 0), .k (I 0)]), (3, .var 44 [.k (I (sumF (l.take k)).1), .k (I (sumF (l.take k)).2)]), (1000, .ro 2 l.length (elFl l))])
    (fun k => k ≤ l.length) (fun k => l.length - k) 0 (by omega) (St.le_of rfl ⟨⟨_, rfl, Blk.le_refl _⟩, ⟨_, rfl, Blk.le_refl _⟩, ⟨_, rfl, Blk.le_refl _⟩, trivial⟩ ⟨rfl, rfl, rfl, rfl, rfl, trivial⟩) ?_)
  intro k hk
  refine G.seqR tfine rfl trivial ?_
  refine G.seq (G.cond (b := decide ((k : Int) < (l.length : Int))) rfl (fun h => ?_) (fun h => ?_))
  rotate_left
  · have h := of_decide_eq_false h
    have : k = l.length := by omega
    subst this
    refine G.exit ?_
    refine G.seqR tfine rfl trivial ?_
    refine G.ret (endK.ret rfl ?_)
    rw [List.take_length]
  have h := of_decide_eq_true h
  have hlt : k < l.length := by omega
  refine G.skip ?_
  refine G.seq (G.block ?_)
  refine G.seqR tfine rfl ⟨by simpa using hlt, by omega, by omega, trivial⟩ ?_
  rw [Int.toNat_natCast]
  refine G.seqR tfine rfl trivial ?_
  refine G.reg tfine rfl trivial ?_
  refine G.reg tfine rfl trivial ?_
  rw [IntWalk.i64_in ((k : Int) + 1) (by omega)]
  have e := take_fold addF (0, 0) l (0, 0) k hlt
  refine ⟨k + 1, (by show k + 1 ≤ l.length; omega), (by show l.length - (k + 1) < l.length - k; omega), St.le_of rfl ⟨⟨_, rfl, Blk.le_refl _⟩, ⟨_, rfl, ?_⟩, ⟨_, rfl, Blk.le_refl _⟩, trivial⟩ ⟨rfl, rfl, rfl, rfl, by simp [up, I], trivial⟩⟩
  show Blk.var _ _ = _
  rw [sumF, e]
  rfl
theorem every_any (f : FuncId) (p : Fl → Bool) (hcf : ∀ args w, (callFunc f args).run Try.prog w = .ok (.enter f args) w)
    (hf : ∀ a m w, Calls Try.prog f #[.agg #[I a, I m]] w fun e w' => e = .returned (.bool (p (a, m))) ∧ Below w.heap.size w w') (A : Option Addr) (c n : Nat) (l : List Fl) (w : World) (hn : n = l.length) (hl : RdRow w A n 2 (elFl l)) (hm : n ≤ 4611686018427387904) :
    Calls Try.prog 41 #[.slice A n c, .func (.func f) #[] #[]] w fun e w' => e = .returned (.bool (l.all p)) ∧ Below w.heap.size w w' := by
  subst hn
  refine enterPlain tfine Try.func41 rfl 18 Try.ntmps41 [.c (.inp 1000 A l.length c), .c (.k (.func (.func f) #[] #[]))] [⟨1000, A, 2, l.length, elFl l⟩] rfl rfl ⟨hl, trivial⟩ ⟨.inl ⟨rfl, rfl, rfl⟩, trivial, trivial⟩ ?_
  refine G.seqR tfine rfl trivial ?_
  refine G.seq (G.seqR tfine rfl trivial ?_)
  refine G.block (G.loop (fun k : Nat => St.of [(1, .v (.c (.k (.func (.func f) #[] #[])))), (7, .v (.c (.inp 1000 A l.length c))), (8, .v (.c (.k (I l.length)))), (9, .v (.c (.k (I k))))] [(1000, .ro 2 l.length (elFl l))])
    (fun k => k ≤ l.length ∧ l.all p = (l.drop k).all p) (fun k => l.length - k) 0 ⟨by omega, rfl⟩ (St.le_of rfl ⟨⟨_, rfl, Blk.le_refl _⟩, trivial⟩ ⟨rfl, rfl, rfl, rfl, trivial⟩) ?_)
  rintro k ⟨hk, ha⟩
  refine G.seqR tfine rfl trivial ?_
  refine G.seq (G.cond (b := decide ((k : Int) < (l.length : Int))) rfl (fun h => ?_) (fun h => ?_))
  rotate_left
  · have h := of_decide_eq_false h
    have : k = l.length := by omega
    subst this
    refine G.exit ?_
    refine G.seqR tfine rfl trivial ?_
    refine G.ret (endK.ret rfl ?_)
    rw [ha, List.drop_length]
    rfl
  have h := of_decide_eq_true h
  have hlt : k < l.length := by omega
  have hd : l.drop k = l.getD k (0, 0) :: l.drop (k + 1) := by
    rw [List.getD_eq_getElem?_getD, List.getElem?_eq_getElem hlt, Option.getD_some, List.drop_eq_getElem_cons hlt]
  rw [hd, List.all_cons] at ha
  refine G.skip ?_
  refine G.seq (G.block ?_)
  refine G.seqR tfine rfl ⟨by simpa using hlt, by omega, by omega, trivial⟩ ?_
  rw [Int.toNat_natCast]
  refine G.seqC tfine rfl trivial ?_
  refine GO.callPlain (v := .bool (p (l.getD k (0, 0)))) rfl rfl rfl rfl hcf (fun ρ w hs hok => hf _ _ w) ?_
  refine GO.fin tfine rfl trivial ?_
  refine G.cond (b := !p (l.getD k (0, 0))) rfl (fun h2 => ?_) (fun h2 => ?_)
  · refine G.seqR tfine rfl trivial ?_
    refine G.ret (endK.ret rfl ?_)
    have h3 : p (l.getD k (0, 0)) = false := by simpa using h2
    rw [ha, h3]
    rfl
  · refine G.skip ?_
    refine G.reg tfine rfl trivial ?_
    rw [IntWalk.i64_in _ (by omega)]
    have h3 : p (l.getD k (0, 0)) = true := by simpa using h2
    rw [h3, Bool.true_and] at ha
    exact ⟨k + 1, ⟨by omega, ha⟩, (by show l.length - (k + 1) < l.length - k; omega), St.le_of rfl ⟨⟨_, rfl, Blk.le_refl _⟩, trivial⟩ ⟨rfl, rfl, rfl, by simp [up, I], trivial⟩⟩
end Go.Proofs.Ytmdgaifonpgojaa
/- Chapter 35: the faults of the cuts, the parts of Check. -/
set_option linter.unusedVariables false
set_option linter.unusedSimpArgs false
set_option maxRecDepth 8000
set_option maxHeartbeats 1000000
namespace Go.Proofs.Ytmdgaifonpgojaa
open Go.Sx Go.RowKit
def cutF (l : List Cut) : Nat → Nat → Int
  | _, 0 => 0
  | k, m + 1 => if (decide ((l.getD k cut0).k < 1) || decide ((l.getD k cut0).k > 4)) = true then 2 else if (decide ((k : Int) > 0) && decide ((l.getD k cut0).k < (l.getD (k - 1) cut0).k)) = true then 5 else cutF l (k + 1) m
def cutsE (l : List Cut) : Int := if l.length = 0 then 9 else if 16 < l.length then 8 else cutF l 0 l.length
theorem cuts_any (id day al ma fa fm : Int) (A : Option Addr) (c : Nat) (l : List Cut) (w : World) (hl : RdRow w A l.length 3 (elC l)) (hm : l.length ≤ 17) :
    Calls Try.prog 46 #[.agg #[I id, I day, I al, I ma, I fa, I fm, .slice A l.length c]] w fun e w' => e = .returned (I (cutsE l)) ∧ Below w.heap.size w w' := by
  refine enterPlain tfine Try.func46 rfl 48 Try.ntmps46 [.agg [.k (I id), .k (I day), .k (I al), .k (I ma), .k (I fa), .k (I fm), .inp 1000 A l.length c]] [⟨1000, A, 3, l.length, elC l⟩] rfl rfl ⟨hl, trivial⟩ ⟨⟨trivial, trivial, trivial, trivial, trivial, trivial, .inl ⟨rfl, rfl, rfl⟩, trivial⟩, trivial⟩ ?_
  refine G.seqR tfine rfl trivial ?_
  refine G.seq (G.block ?_)
  refine G.seqR tfine rfl trivial ?_
  refine G.cond (b := ((l.length : Int) == 0)) rfl (fun h1 => ?_) (fun h1 => ?_)
  · refine G.seqR tfine rfl trivial ?_
    refine G.ret (endK.ret rfl ?_)
    have : l.length = 0 := by simpa using h1
    rw [cutsE, if_pos this]
  have h1 : ¬ l.length = 0 := by simpa using h1
  refine G.seqR tfine rfl trivial ?_
  refine G.cond (b := decide ((l.length : Int) > 16)) rfl (fun h2 => ?_) (fun h2 => ?_)
  · refine G.seqR tfine rfl trivial ?_
    refine G.ret (endK.ret rfl ?_)
    have := of_decide_eq_true h2
    rw [cutsE, if_neg h1, if_pos (by omega)]
  have h2 : ¬ 16 < l.length := by have := of_decide_eq_false h2; omega
  refine G.skip ?_
  refine G.seq (G.seqR tfine rfl trivial ?_)
  refine G.block (G.loop (fun k : Nat => St.of [(1, .v (.c (.ptr 1 0 0 0))), (16, .v (.c (.inp 1000 A l.length c))), (17, .v (.c (.k (I l.length)))), (18, .v (.c (.k (I k))))] [(1, .var 24 [.k (I id), .k (I day), .k (I al), .k (I ma), .k (I fa), .k (I fm), .inp 1000 A l.length c]), (1000, .ro 3 l.length (elC l))])
    (fun k => k ≤ l.length ∧ cutF l 0 l.length = cutF l k (l.length - k)) (fun k => l.length - k) 0 ⟨by omega, rfl⟩ (St.le_of rfl ⟨⟨_, rfl, Blk.le_refl _⟩, ⟨_, rfl, Blk.le_refl _⟩, trivial⟩ ⟨rfl, rfl, rfl, rfl, trivial⟩) ?_)
  rintro k ⟨hk, ha⟩
  refine G.seqR tfine rfl trivial ?_
  refine G.seq (G.cond (b := decide ((k : Int) < (l.length : Int))) rfl (fun h => ?_) (fun h => ?_))
  rotate_left
  · have h := of_decide_eq_false h
    have : k = l.length := by omega
    subst this
    refine G.exit ?_
    refine G.seqR tfine rfl trivial ?_
    refine G.ret (endK.ret rfl ?_)
    rw [cutsE, if_neg h1, if_neg h2, ha, Nat.sub_self]
    rfl
  have h := of_decide_eq_true h
  have hlt : k < l.length := by omega
  have hs : l.length - k = (l.length - (k + 1)) + 1 := by omega
  rw [hs, cutF] at ha
  refine G.skip ?_
  refine G.seq (G.block ?_)
  refine G.seqR tfine rfl ⟨by simpa using hlt, by omega, by omega, trivial⟩ ?_
  rw [Int.toNat_natCast]
  refine G.block ?_
  refine G.seqR tfine rfl ?_ ?_
  · simp [AllP, condB]
  refine G.cond (b := (decide ((l.getD k cut0).k < 1) || decide ((l.getD k cut0).k > 4))) rfl (fun h3 => ?_) (fun h3 => ?_)
  · refine G.seqR tfine rfl trivial ?_
    refine G.ret (endK.ret rfl ?_)
    rw [cutsE, if_neg h1, if_neg h2, ha, if_pos h3]
  rw [if_neg (fne h3)] at ha
  have ek : IntKind.i64.wrap ((k : Int) - 1) = (k : Int) - 1 := IntWalk.i64_in _ (by omega)
  refine G.seqD tfine hmix [0, 1, 3, 7, 15, 7, 39, 7, 135, 487, 999, 2023, 4095, 8191, 16383] [] rfl rfl rfl rfl ?_ ?_
  · simp only [AllP, condB]
    rw [ek]
    and_intros <;> first
      | trivial
      | (intro h5
         have := of_decide_eq_true h5
         and_intros <;> first | trivial | omega)
      | (intro h5; exact h5)
      | skip
  have e2 : (IntKind.i64.wrap ((k : Int) - 1)).toNat = k - 1 := by rw [ek]; omega
  rw [e2]
  refine G.cond (b := (decide ((k : Int) > 0) && decide ((l.getD k cut0).k < (l.getD (k - 1) cut0).k))) rfl (fun h4 => ?_) (fun h4 => ?_)
  · refine G.seqR tfine rfl trivial ?_
    refine G.ret (endK.ret rfl ?_)
    rw [cutsE, if_neg h1, if_neg h2, ha, if_pos h4]
  rw [if_neg (fne h4)] at ha
  refine G.skip ?_
  refine G.reg tfine rfl trivial ?_
  rw [IntWalk.i64_in ((k : Int) + 1) (by omega)]
  exact ⟨k + 1, ⟨by omega, ha⟩, (by show l.length - (k + 1) < l.length - k; omega), St.le_of rfl ⟨⟨_, rfl, Blk.le_refl _⟩, ⟨_, rfl, Blk.le_refl _⟩, trivial⟩ ⟨rfl, rfl, rfl, by simp [up, I], trivial⟩⟩
end Go.Proofs.Ytmdgaifonpgojaa
/- Chapter 35: the parts of Check, Check. -/
set_option linter.unusedVariables false
set_option linter.unusedSimpArgs false
set_option maxRecDepth 8000
set_option maxHeartbeats 1000000
namespace Go.Proofs.Ytmdgaifonpgojaa
open Go.Sx Go.RowKit
def p42 (f : Fl) : Bool := run_flow__ranges f.1 f.2
def p44 (f : Fl) : Bool := run_Check_2_1 f.1 f.2
def chk1 (id day : Int) (L : List Fl) : Int := if ((((decide (id < 1) || decide (id > 1073741824)) || decide (day < 0)) || decide (day > 100000)) || !(L.all p42)) = true then 2 else 0
def chk2 (L : List Fl) : Int := if (!(L.all p44)) = true then 10 else 0
def chk4 (L : List Fl) : Int := if (!(p42 (sumF (L.take 2))) || !(p42 (sumF (L.drop 2)))) = true then 15 else 0
abbrev inps2 (A : Option Addr) (l : List Cut) (B : Option Addr) (L : List Fl) (n : Nat) : List Inp := [⟨1000, A, 3, l.length, elC l⟩, ⟨1001, B, 2, n, elFl L⟩]
section
variable (id day al ma fa fm : Int) (A : Option Addr) (c : Nat) (l : List Cut) (B : Option Addr) (c2 n : Nat) (L : List Fl) (g1 g2 : Nat) (w : World)
theorem check1_any (hn : n = L.length) (hl : RdRow w A l.length 3 (elC l)) (hL : RdRow w B n 2 (elFl L)) (hm : n ≤ 4611686018427387904) (hne : g1 ≠ g2) (hf1 : Cb.fit w (inps2 A l B L n) ⟨1900, g1, 24, [.k (I id), .k (I day), .k (I al), .k (I ma), .k (I fa), .k (I fm), .inp 1000 A l.length c]⟩) (hf2 : Cb.fit w (inps2 A l B L n) ⟨1901, g2, 58, [.inp 1001 B n c2]⟩) :
    Calls Try.prog 40 #[.pointer (some ⟨g1, 0, none⟩), .pointer (some ⟨g2, 0, none⟩)] w fun e w' => e = .returned (I (chk1 id day L)) ∧ Below w.heap.size w w' := by
  refine enterCaps tfine [⟨1900, g1, 24, [.k (I id), .k (I day), .k (I al), .k (I ma), .k (I fa), .k (I fm), .inp 1000 A l.length c]⟩, ⟨1901, g2, 58, [.inp 1001 B n c2]⟩] Try.func40 rfl 26 Try.ntmps40 [.c (.ptr 1900 0 0 0), .c (.ptr 1901 0 0 0)] (inps2 A l B L n) ⟨hl, hL, trivial⟩ ⟨(show 1000 < 1900 by decide), (show 1001 < 1900 by decide), trivial⟩ ⟨⟨⟨(show (1900 : Nat) ≠ 1901 by decide), hne⟩, trivial⟩, trivial, trivial⟩ ⟨hf1, hf2, trivial⟩ rfl rfl ⟨.inl rfl, .inr (.inl rfl), trivial⟩ ?_
  refine G.seqR tfine rfl trivial ?_
  refine G.seq ?_
  refine G.seqC tfine rfl ?_ ?_
  · simp [AllP, condB]
  refine GO.callGuard (.bool (L.all p42)) rfl rfl rfl (by first | exact trivial | exact ⟨id, trivial⟩ | exact ⟨fun h => h, trivial⟩) rfl rfl (fun args w => Try.call41 args w) rfl (fun _ m' hle ρ w hs hok => every_any 42 p42 (fun args w => Try.call42 args w) (fun a m w => run_flow__ranges_any a m w) B c2 n L w hn (hs.row (cap := c2) (hle.at rfl) (hok _ List.mem_cons_self)) hm) ?_
  refine GO.fin tfine rfl ?_ ?_
  · simp [AllP, condB]
  refine G.cond (b := ((((decide (id < 1) || decide (id > 1073741824)) || decide (day < 0)) || decide (day > 100000)) || !(L.all p42))) rfl (fun h => ?_) (fun h => ?_)
  · refine G.seqR tfine rfl trivial ?_
    refine G.ret (endCaps.ret rfl ?_ ⟨rfl, rfl, trivial⟩)
    rw [chk1, if_pos h]
  refine G.skip ?_
  refine G.seqR tfine rfl trivial ?_
  refine G.ret (endCaps.ret rfl ?_ ⟨rfl, rfl, trivial⟩)
  rw [chk1, if_neg (fne h)]
theorem check2_any (hn : n = L.length) (hl : RdRow w A l.length 3 (elC l)) (hL : RdRow w B n 2 (elFl L)) (hm : n ≤ 4611686018427387904) (hf2 : Cb.fit w (inps2 A l B L n) ⟨1900, g2, 58, [.inp 1001 B n c2]⟩) :
    Calls Try.prog 43 #[.pointer (some ⟨g2, 0, none⟩)] w fun e w' => e = .returned (I (chk2 L)) ∧ Below w.heap.size w w' := by
  refine enterCaps tfine [⟨1900, g2, 58, [.inp 1001 B n c2]⟩] Try.func43 rfl 5 Try.ntmps43 [.c (.ptr 1900 0 0 0)] (inps2 A l B L n) ⟨hl, hL, trivial⟩ ⟨(show 1000 < 1900 by decide), (show 1001 < 1900 by decide), trivial⟩ ⟨trivial, trivial⟩ ⟨hf2, trivial⟩ rfl rfl ⟨.inl rfl, trivial⟩ ?_
  refine G.seqR tfine rfl trivial ?_
  refine G.seq ?_
  refine G.seqC tfine rfl trivial ?_
  refine GO.callPlain (v := .bool (L.all p44)) rfl rfl rfl rfl (fun args w => Try.call41 args w) (fun ρ w hs hok => every_any 44 p44 (fun args w => Try.call44 args w) (fun a m w => run_Check_2_1_any a m w) B c2 n L w hn (hs.row (cap := c2) rfl (hok _ List.mem_cons_self)) hm) ?_
  refine GO.fin tfine rfl trivial ?_
  refine G.cond (b := !(L.all p44)) rfl (fun h => ?_) (fun h => ?_)
  · refine G.seqR tfine rfl trivial ?_
    refine G.ret (endCaps.ret rfl ?_ ⟨rfl, trivial⟩)
    rw [chk2, if_pos h]
  refine G.skip ?_
  refine G.seqR tfine rfl trivial ?_
  refine G.ret (endCaps.ret rfl ?_ ⟨rfl, trivial⟩)
  rw [chk2, if_neg (fne h)]
theorem check3_any (hc : l.length ≤ 17) (hl : RdRow w A l.length 3 (elC l)) (hL : RdRow w B n 2 (elFl L)) (hf1 : Cb.fit w (inps2 A l B L n) ⟨1900, g1, 24, [.k (I id), .k (I day), .k (I al), .k (I ma), .k (I fa), .k (I fm), .inp 1000 A l.length c]⟩) :
    Calls Try.prog 45 #[.pointer (some ⟨g1, 0, none⟩)] w fun e w' => e = .returned (I (cutsE l)) ∧ Below w.heap.size w w' := by
  refine enterCaps tfine [⟨1900, g1, 24, [.k (I id), .k (I day), .k (I al), .k (I ma), .k (I fa), .k (I fm), .inp 1000 A l.length c]⟩] Try.func45 rfl 4 Try.ntmps45 [.c (.ptr 1900 0 0 0)] (inps2 A l B L n) ⟨hl, hL, trivial⟩ ⟨(show 1000 < 1900 by decide), (show 1001 < 1900 by decide), trivial⟩ ⟨trivial, trivial⟩ ⟨hf1, trivial⟩ rfl rfl ⟨.inl rfl, trivial⟩ ?_
  refine G.seqR tfine rfl trivial ?_
  refine G.seqC tfine rfl trivial ?_
  refine GO.callPlain (v := I (cutsE l)) rfl rfl rfl rfl (fun args w => Try.call46 args w) (fun ρ w hs hok => cuts_any id day al ma fa fm A c l w (hs.row (cap := c) rfl (hok _ List.mem_cons_self _ (List.mem_cons_of_mem _ (List.mem_cons_of_mem _ (List.mem_cons_of_mem _ (List.mem_cons_of_mem _ (List.mem_cons_of_mem _ (List.mem_cons_of_mem _ List.mem_cons_self)))))))) hc) ?_
  refine GO.fin tfine rfl trivial ?_
  exact G.ret (endCaps.ret rfl rfl ⟨rfl, trivial⟩)
theorem getD_take (l : List Fl) (k i : Nat) (h : i < k) : (l.take k).getD i (0, 0) = l.getD i (0, 0) := by
  rw [List.getD_eq_getElem?_getD, List.getElem?_take, if_pos h, ← List.getD_eq_getElem?_getD]
theorem getD_drop (l : List Fl) (k i : Nat) : (l.drop k).getD i (0, 0) = l.getD (k + i) (0, 0) := by
  rw [List.getD_eq_getElem?_getD, List.getElem?_drop, ← List.getD_eq_getElem?_getD]
/-- the sums of the first two and of all others -/
theorem sumHead {E : Env} {ρ : Val} {m : Mem} {w : World} (hs : SatM E ρ m w) {x : Nat} (hx : m x = some (.ro 2 n (elFl L))) (ho : AC.ok ρ m (.inp x B 2 c2)) (hn : n = L.length) (h2 : 2 ≤ n) :
    Calls Try.prog 38 #[.slice B 2 c2] w fun e w' => e = .returned (.agg #[I (sumF (L.take 2)).1, I (sumF (L.take 2)).2]) ∧ Below w.heap.size w w' :=
  sum_any B c2 2 (L.take 2) w (by simp; omega) ((hs.rd hx ho h2).congr fun i hi => by simp only [elFl, getD_take L 2 i hi]) (by omega)
theorem sumTail {E : Env} {ρ : Val} {m : Mem} {w : World} (hs : SatM E ρ m w) {x : Nat} (hx : m x = some (.ro 2 n (elFl L))) (k : Nat) (hn : n = L.length) (h2 : 2 ≤ n) (hm : n ≤ 4611686018427387904) :
    Calls Try.prog 38 #[.slice (some ⟨(ρ x).1, (ρ x).2 + 2 * 2, none⟩) (n - 2) k] w fun e w' => e = .returned (.agg #[I (sumF (L.drop 2)).1, I (sumF (L.drop 2)).2]) ∧ Below w.heap.size w w' :=
  sum_any _ k (n - 2) (L.drop 2) w (by simp; omega) ((hs.rdRo hx 2 (n - 2) (by omega)).congr fun i hi => by simp only [elFl, getD_drop L 2 i]) (by omega)
theorem check4_any (hn : n = L.length) (h2 : 2 < n) (hc2 : n ≤ c2) (hl : RdRow w A l.length 3 (elC l)) (hL : RdRow w B n 2 (elFl L)) (hm : n ≤ 4611686018427387904) (hf2 : Cb.fit w (inps2 A l B L n) ⟨1900, g2, 58, [.inp 1001 B n c2]⟩) :
    Calls Try.prog 47 #[.pointer (some ⟨g2, 0, none⟩)] w fun e w' => e = .returned (I (chk4 L)) ∧ Below w.heap.size w w' := by
  refine enterCaps tfine [⟨1900, g2, 58, [.inp 1001 B n c2]⟩] Try.func47 rfl 14 Try.ntmps47 [.c (.ptr 1900 0 0 0)] (inps2 A l B L n) ⟨hl, hL, trivial⟩ ⟨(show 1000 < 1900 by decide), (show 1001 < 1900 by decide), trivial⟩ ⟨trivial, trivial⟩ ⟨hf2, trivial⟩ rfl rfl ⟨.inl rfl, trivial⟩ ?_
  refine G.seqR tfine rfl trivial ?_
  refine G.seq ?_
  refine G.seqC tfine rfl ⟨by omega, by omega, by omega, trivial⟩ ?_
  refine GO.callPlain (v := .agg #[I (sumF (L.take 2)).1, I (sumF (L.take 2)).2]) rfl rfl rfl rfl (fun args w => Try.call38 args w) (fun ρ w hs hok => sumHead B c2 n L hs (x := 1001) rfl (hok _ List.mem_cons_self) hn (by omega)) ?_
  refine GO.callPlain (v := .bool (p42 (sumF (L.take 2)))) rfl rfl rfl rfl (fun args w => Try.call42 args w) (fun ρ w hs hok => run_flow__ranges_any _ _ w) ?_
  refine GO.more tfine rfl ?_ ?_
  · simp only [AllP, condB]
    and_intros <;> first | trivial | (intro h; and_intros <;> first | trivial | omega | exact h)
  refine GO.callGuard (.agg #[I (sumF (L.drop 2)).1, I (sumF (L.drop 2)).2]) rfl rfl rfl (by first | exact trivial | exact ⟨fun h => h, trivial⟩) rfl rfl (fun args w => Try.call38 args w) rfl (fun _ m' hle ρ w hs hok => sumTail n L hs (x := 1001) (hle.at rfl) (c2 - 2) hn (by omega) hm) ?_
  refine GO.callGuard (.bool (p42 (sumF (L.drop 2)))) rfl rfl rfl (by first | exact trivial | exact ⟨fun h => h, trivial⟩) rfl rfl (fun args w => Try.call42 args w) rfl (fun _ m' hle ρ w hs hok => run_flow__ranges_any _ _ w) ?_
  refine GO.fin tfine rfl ?_ ?_
  · simp [AllP, condB]
  refine G.cond (b := (!(p42 (sumF (L.take 2))) || !(p42 (sumF (L.drop 2))))) rfl (fun h => ?_) (fun h => ?_)
  · refine G.seqR tfine rfl trivial ?_
    refine G.ret (endCaps.ret rfl ?_ ⟨rfl, trivial⟩)
    rw [chk4, if_pos h]
  refine G.skip ?_
  refine G.seqR tfine rfl trivial ?_
  refine G.ret (endCaps.ret rfl ?_ ⟨rfl, trivial⟩)
  rw [chk4, if_neg (fne h)]
end
end Go.Proofs.Ytmdgaifonpgojaa
/- Chapter 35: Check. -/
set_option linter.unusedVariables false
set_option linter.unusedSimpArgs false
set_option maxRecDepth 8000
set_option maxHeartbeats 1000000
namespace Go.Proofs.Ytmdgaifonpgojaa
open Go.Sx Go.RowKit
theorem run_fits {E : Env} {ρ : Val} {m : Mem} {w : World} (hs : SatM E ρ m w) (id day al ma fa fm : Int) (A : Option Addr) (c : Nat) (l : List Cut) (B : Option Addr) (c2 : Nat) (L : List Fl)
    (h1 : m 1 = some (.var 24 [.k (I id), .k (I day), .k (I al), .k (I ma), .k (I fa), .k (I fm), .inp 1000 A l.length c])) (h3 : m 3 = some (.var 58 [.inp 8 B (l.length + 2) c2])) (h8 : m 8 = some (.ro 2 (l.length + 2) (elFl L))) (h0 : m 1000 = some (.ro 3 l.length (elC l))) :
    (ρ 1).2 = 0 ∧ (ρ 3).2 = 0 ∧ (ρ 1).1 ≠ (ρ 3).1 ∧ RdRow w A l.length 3 (elC l) ∧ RdRow w B (l.length + 2) 2 (elFl L) ∧ Cb.fit w (inps2 A l B L (l.length + 2)) ⟨1900, (ρ 1).1, 24, [.k (I id), .k (I day), .k (I al), .k (I ma), .k (I fa), .k (I fm), .inp 1000 A l.length c]⟩ ∧ ∀ y, 1900 ≤ y → Cb.fit w (inps2 A l B L (l.length + 2)) ⟨y, (ρ 3).1, 58, [.inp 1001 B (l.length + 2) c2]⟩ := by
  obtain ⟨a1, _, a3, a4⟩ := hs.ok 1 _ h1
  obtain ⟨b1, _, b3, b4⟩ := hs.ok 3 _ h3
  have oA : AC.ok ρ m (.inp 1000 A l.length c) := a4 _ (by simp)
  have oB : AC.ok ρ m (.inp 8 B (l.length + 2) c2) := b4 _ (by simp)
  refine ⟨a1, b1, hs.ne 1 3 _ _ h1 h3 trivial trivial (by decide), hs.rd h0 oA (Nat.le_refl _), hs.rd h8 oB (Nat.le_refl _), ⟨(show 1900 ≤ 1900 by decide), ⟨hs.apart h1 trivial h0 oA (Nat.le_refl _) (by decide), hs.apart h1 trivial h8 oB (Nat.le_refl _) (by decide), trivial⟩, ⟨trivial, trivial, trivial, trivial, trivial, trivial, .inl ⟨rfl, rfl, rfl⟩, trivial⟩, a3⟩, fun y hy => ⟨hy, ⟨hs.apart h3 trivial h0 oA (Nat.le_refl _) (by decide), hs.apart h3 trivial h8 oB (Nat.le_refl _) (by decide), trivial⟩, ⟨.inr ⟨(show (1000 : Nat) ≠ 1001 by decide), .inl ⟨rfl, rfl, rfl⟩⟩, trivial⟩, b3⟩⟩
def checkE (id day al ma fa fm : Int) (l : List Cut) : Int :=
  if (chk1 id day (flowsL al ma fa fm l) != 0) = true then chk1 id day (flowsL al ma fa fm l) else if (chk2 (flowsL al ma fa fm l) != 0) = true then chk2 (flowsL al ma fa fm l) else if (cutsE l != 0) = true then cutsE l else if (chk4 (flowsL al ma fa fm l) != 0) = true then chk4 (flowsL al ma fa fm l) else 0
theorem cutsE_pos {l : List Cut} (h : (cutsE l != 0) = false) : 0 < l.length := by
  by_cases h0 : l.length = 0
  · rw [cutsE, if_pos h0] at h
    exact absurd h (by decide)
  · omega
theorem check_any (id day al ma fa fm : Int) (A : Option Addr) (c : Nat) (l : List Cut) (w : World) (hl : RdRow w A l.length 3 (elC l)) (hm : l.length ≤ 17) :
    Calls Try.prog 23 #[.agg #[I id, I day, I al, I ma, I fa, I fm, .slice A l.length c]] w fun e w' => e = .returned (I (checkE id day al ma fa fm l)) ∧ Below w.heap.size w w' := by
  refine enterPlain tfine Try.func23 rfl 25 Try.ntmps23 [.agg [.k (I id), .k (I day), .k (I al), .k (I ma), .k (I fa), .k (I fm), .inp 1000 A l.length c]] [⟨1000, A, 3, l.length, elC l⟩] rfl rfl ⟨hl, trivial⟩ ⟨⟨trivial, trivial, trivial, trivial, trivial, trivial, .inl ⟨rfl, rfl, rfl⟩, trivial⟩, trivial⟩ ?_
  refine G.seqR tfine rfl trivial ?_
  refine G.seqC tfine rfl trivial ?_
  refine GO.callRowC (el := elFl (flowsL al ma fa fm l)) (n := l.length + 2) rfl rfl rfl rfl rfl rfl rfl (fun args w => Try.call39 args w) (fun ρ w hs hok => flows_any id day al ma fa fm A c l w (hs.row (cap := c) rfl (hok _ List.mem_cons_self _ (List.mem_cons_of_mem _ (List.mem_cons_of_mem _ (List.mem_cons_of_mem _ (List.mem_cons_of_mem _ (List.mem_cons_of_mem _ (List.mem_cons_of_mem _ List.mem_cons_self)))))))) hm) fun B c2 hc2 => ?_
  refine GO.fin tfine rfl trivial ?_
  have hn : l.length + 2 = (flowsL al ma fa fm l).length := (flowsL_len al ma fa fm l).symm
  refine G.seq (G.seqR tfine rfl trivial ?_)
  refine G.block (G.rounds (GI.round ?_))
  refine G.seqR tfine rfl trivial ?_
  refine G.seq (G.cond_true rfl (G.skip (G.seq (G.block ?_))))
  refine G.seqR tfine rfl ?_ ?_
  · simp [AllP]
  refine G.seqC tfine rfl trivial ?_
  refine GO.callPlain (v := I (chk1 id day (flowsL al ma fa fm l))) rfl rfl rfl rfl (fun args w => Try.call40 args w) (fun ρ w hs hok => ?_) ?_
  · obtain ⟨e1, e3, hne, hA, hB, f1, f3⟩ := run_fits hs id day al ma fa fm A c l B c2 (flowsL al ma fa fm l) rfl rfl rfl rfl
    show Calls Try.prog _ #[.pointer (some ⟨(ρ 1).1, (ρ 1).2 + 0, none⟩), .pointer (some ⟨(ρ 3).1, (ρ 3).2 + 0, none⟩)] w _
    rw [e1, e3]
    exact check1_any id day al ma fa fm A c l B c2 (l.length + 2) _ _ _ w hn hA hB (by omega) hne f1 (f3 1901 (by decide))
  refine GO.fin tfine rfl trivial ?_
  refine G.seqR tfine rfl trivial ?_
  refine G.cond (b := (chk1 id day (flowsL al ma fa fm l) != 0)) rfl (fun h1 => ?_) (fun h1 => ?_)
  · refine G.seqR tfine rfl trivial ?_
    refine G.ret (endK.ret rfl ?_)
    rw [checkE, if_pos h1]
  refine G.skip ?_
  refine G.reg tfine rfl trivial ?_
  refine GI.round ?_
  refine G.seqR tfine rfl trivial ?_
  refine G.seq (G.cond_true rfl (G.skip (G.seq (G.block ?_))))
  refine G.seqR tfine rfl ?_ ?_
  · simp [AllP]; decide
  refine G.seqC tfine rfl trivial ?_
  refine GO.callPlain (v := I (chk2 (flowsL al ma fa fm l))) rfl rfl rfl rfl (fun args w => Try.call43 args w) (fun ρ w hs hok => ?_) ?_
  · obtain ⟨e1, e3, hne, hA, hB, f1, f3⟩ := run_fits hs id day al ma fa fm A c l B c2 (flowsL al ma fa fm l) rfl rfl rfl rfl
    show Calls Try.prog _ #[.pointer (some ⟨(ρ 3).1, (ρ 3).2 + 0, none⟩)] w _
    rw [e3]
    exact check2_any A l B c2 (l.length + 2) _ _ w hn hA hB (by omega) (f3 1900 (by decide))
  refine GO.fin tfine rfl trivial ?_
  refine G.seqR tfine rfl trivial ?_
  refine G.cond (b := (chk2 (flowsL al ma fa fm l) != 0)) rfl (fun h2 => ?_) (fun h2 => ?_)
  · refine G.seqR tfine rfl trivial ?_
    refine G.ret (endK.ret rfl ?_)
    rw [checkE, if_neg (fne h1), if_pos h2]
  refine G.skip ?_
  refine G.reg tfine rfl trivial ?_
  refine GI.round ?_
  refine G.seqR tfine rfl trivial ?_
  refine G.seq (G.cond_true rfl (G.skip (G.seq (G.block ?_))))
  refine G.seqR tfine rfl ?_ ?_
  · simp [AllP]; decide
  refine G.seqC tfine rfl trivial ?_
  refine GO.callPlain (v := I (cutsE l)) rfl rfl rfl rfl (fun args w => Try.call45 args w) (fun ρ w hs hok => ?_) ?_
  · obtain ⟨e1, e3, hne, hA, hB, f1, f3⟩ := run_fits hs id day al ma fa fm A c l B c2 (flowsL al ma fa fm l) rfl rfl rfl rfl
    show Calls Try.prog _ #[.pointer (some ⟨(ρ 1).1, (ρ 1).2 + 0, none⟩)] w _
    rw [e1]
    exact check3_any id day al ma fa fm A c l B (l.length + 2) _ _ w hm hA hB f1
  refine GO.fin tfine rfl trivial ?_
  refine G.seqR tfine rfl trivial ?_
  refine G.cond (b := (cutsE l != 0)) rfl (fun h3 => ?_) (fun h3 => ?_)
  · refine G.seqR tfine rfl trivial ?_
    refine G.ret (endK.ret rfl ?_)
    rw [checkE, if_neg (fne h1), if_neg (fne h2), if_pos h3]
  have hpos := cutsE_pos h3
  refine G.skip ?_
  refine G.reg tfine rfl trivial ?_
  refine GI.round ?_
  refine G.seqR tfine rfl trivial ?_
  refine G.seq (G.cond_true rfl (G.skip (G.seq (G.block ?_))))
  refine G.seqR tfine rfl ?_ ?_
  · simp [AllP]; decide
  refine G.seqC tfine rfl trivial ?_
  refine GO.callPlain (v := I (chk4 (flowsL al ma fa fm l))) rfl rfl rfl rfl (fun args w => Try.call47 args w) (fun ρ w hs hok => ?_) ?_
  · obtain ⟨e1, e3, hne, hA, hB, f1, f3⟩ := run_fits hs id day al ma fa fm A c l B c2 (flowsL al ma fa fm l) rfl rfl rfl rfl
    show Calls Try.prog _ #[.pointer (some ⟨(ρ 3).1, (ρ 3).2 + 0, none⟩)] w _
    rw [e3]
    exact check4_any A l B c2 (l.length + 2) _ _ w hn (by omega) hc2 hA hB (by omega) (f3 1900 (by decide))
  refine GO.fin tfine rfl trivial ?_
  refine G.seqR tfine rfl trivial ?_
  refine G.cond (b := (chk4 (flowsL al ma fa fm l) != 0)) rfl (fun h4 => ?_) (fun h4 => ?_)
  · refine G.seqR tfine rfl trivial ?_
    refine G.ret (endK.ret rfl ?_)
    rw [checkE, if_neg (fne h1), if_neg (fne h2), if_neg (fne h3), if_pos h4]
  refine G.skip ?_
  refine G.reg tfine rfl trivial ?_
  refine GI.round ?_
  refine G.seqR tfine rfl trivial ?_
  refine G.seq (G.cond_false rfl (G.exit ?_))
  refine G.seqR tfine rfl trivial ?_
  refine G.ret (endK.ret rfl ?_)
  rw [checkE, if_neg (fne h1), if_neg (fne h2), if_neg (fne h3), if_neg (fne h4)]
end Go.Proofs.Ytmdgaifonpgojaa
/- Chapter 35: the reference's sum and Check. -/
set_option linter.unusedVariables false
set_option linter.unusedSimpArgs false
set_option maxRecDepth 8000
set_option maxHeartbeats 1000000
namespace Go.Proofs.Ytmdgaifonpgojaa
open Go.Sx Go.RowKit
def kindB (kd : Int) (x : Cut) : Bool := (kd == 0) || (x.k == kd)
def addK (kd : Int) (s : Fl) (x : Cut) : Fl := if kindB kd x = true then addF s (x.a, x.m) else s
def rsum (l : List Cut) (kd : Int) : Fl := l.foldl (addK kd) (0, 0)
theorem refSum_any (id day al ma fa fm kd : Int) (A : Option Addr) (c : Nat) (l : List Cut) (w : World) (hl : RdRow w A l.length 3 (elC l)) (hm : l.length ≤ 17) :
    Calls Try.prog 32 #[.agg #[I id, I day, I al, I ma, I fa, I fm, .slice A l.length c], I kd] w fun e w' => e = .returned (.tuple #[I (rsum l kd).1, I (rsum l kd).2]) ∧ Below w.heap.size w w' := by
  refine enterPlain tfine Try.func32 rfl 46 Try.ntmps32 [.agg [.k (I id), .k (I day), .k (I al), .k (I ma), .k (I fa), .k (I fm), .inp 1000 A l.length c], .c (.k (I kd))] [⟨1000, A, 3, l.length, elC l⟩] rfl rfl ⟨hl, trivial⟩ ⟨⟨trivial, trivial, trivial, trivial, trivial, trivial, .inl ⟨rfl, rfl, rfl⟩, trivial⟩, trivial, trivial⟩ ?_
  refine G.seqR tfine rfl trivial ?_
  refine G.seqR tfine rfl trivial ?_
  refine G.seq (G.seqR tfine rfl trivial ?_)
  refine G.block (G.loop (fun k : Nat => St.of [(1, .v (.c (.k (I kd)))), (2, .v (.c (.ptr 2 0 0 0))), (6, .v (.c (.k (I ((l.take k).foldl (addK kd) (0, 0)).1)))), (7, .v (.c (.k (I ((l.take k).foldl (addK kd) (0, 0)).2)))), (8, .v (.c (.k (I k))))] [(2, .var 24 [.k (I id), .k (I day), .k (I al), .k (I ma), .k (I fa), .k (I fm), .inp 1000 A l.length c]), (1000, .ro 3 l.length (elC l))])
    (fun k => k ≤ l.length) (fun k => l.length - k) 0 (by omega) (St.le_of rfl ⟨⟨_, rfl, Blk.le_refl _⟩, ⟨_, rfl, Blk.le_refl _⟩, trivial⟩ ⟨rfl, rfl, rfl, rfl, rfl, trivial⟩) ?_)
  intro k hk
  refine G.seq (G.seqR tfine rfl trivial ?_)
  refine G.cond (b := decide ((k : Int) < (l.length : Int))) rfl (fun h => ?_) (fun h => ?_)
  rotate_left
  · have h := of_decide_eq_false h
    have : k = l.length := by omega
    subst this
    refine G.exit ?_
    refine G.seqR tfine rfl trivial ?_
    refine G.ret (endK.ret rfl ?_)
    rw [rsum, List.take_length]
  have h := of_decide_eq_true h
  have hlt : k < l.length := by omega
  refine G.skip (G.seq (G.block ?_))
  have e := take_fold (addK kd) (0, 0) l cut0 k hlt
  refine G.seqR tfine rfl ?_ ?_
  · simp [AllP, condB]; omega
  rw [Int.toNat_natCast]
  refine G.cond (b := kindB kd (l.getD k cut0)) rfl (fun h1 => ?_) (fun h1 => ?_)
  · refine G.regD tfine hmix [0, 0, 2, 0, 14, 30, 62, 127, 0, 0, 512, 0, 3584, 7680, 15872, 32512, 255, 131071] [] rfl rfl rfl rfl ?_ ?_
    · simp [AllP]; omega
    refine G.reg tfine rfl trivial ?_
    rw [Int.toNat_natCast, IntWalk.i64_in ((k : Int) + 1) (by omega)]
    refine ⟨k + 1, (by show k + 1 ≤ l.length; omega), (by show l.length - (k + 1) < l.length - k; omega), St.le_of rfl ⟨⟨_, rfl, Blk.le_refl _⟩, ⟨_, rfl, Blk.le_refl _⟩, trivial⟩ ⟨rfl, rfl, ?_, ?_, by simp [up, I], trivial⟩⟩
    · show _ = TV.v (.c (.k (I ((l.take (k + 1)).foldl (addK kd) (0, 0)).1)))
      rw [e]; unfold addK; rw [if_pos h1]; rfl
    · show _ = TV.v (.c (.k (I ((l.take (k + 1)).foldl (addK kd) (0, 0)).2)))
      rw [e]; unfold addK; rw [if_pos h1]; rfl
  · refine G.skip ?_
    refine G.reg tfine rfl trivial ?_
    rw [IntWalk.i64_in ((k : Int) + 1) (by omega)]
    refine ⟨k + 1, (by show k + 1 ≤ l.length; omega), (by show l.length - (k + 1) < l.length - k; omega), St.le_of rfl ⟨⟨_, rfl, Blk.le_refl _⟩, ⟨_, rfl, Blk.le_refl _⟩, trivial⟩ ⟨rfl, rfl, ?_, ?_, by simp [up, I], trivial⟩⟩
    · show _ = TV.v (.c (.k (I ((l.take (k + 1)).foldl (addK kd) (0, 0)).1)))
      rw [e]; unfold addK; rw [if_neg (fne h1)]; rfl
    · show _ = TV.v (.c (.k (I ((l.take (k + 1)).foldl (addK kd) (0, 0)).2)))
      rw [e]; unfold addK; rw [if_neg (fne h1)]; rfl
def am (x y : Int) : Bool := spileref35_amounts x y
def hdB (id day : Int) : Bool := (((decide (id < 1) || decide (id > 1073741824)) || decide (day < 0)) || decide (day > 100000))
def outB (x : Cut) : Bool := !(am x.a x.m)
def voidB (x : Cut) : Bool := decide (x.a > 0) && (x.m == 0)
def mis2 (al ma fa fm : Int) : Bool := (decide (al > 0) && (ma == 0)) || (decide (fa > 0) && (fm == 0))
def limB (al ma fa fm : Int) (l : List Cut) : Bool := !(am (rsum l 0).1 (rsum l 0).2) || !(am (IntKind.i64.wrap (al + fa)) (IntKind.i64.wrap (ma + fm)))
def refCheckE (id day al ma fa fm : Int) (l : List Cut) : Int :=
  if hdB id day = true then 2 else if (!(am al ma) || !(am fa fm)) = true then 2 else if l.any outB = true then 2 else if mis2 al ma fa fm = true then 10 else if l.any voidB = true then 10 else
    if l.length = 0 then 9 else if 16 < l.length then 8 else if cutF l 0 l.length ≠ 0 then cutF l 0 l.length else if limB al ma fa fm l = true then 15 else 0
theorem refCheck_any (id day al ma fa fm : Int) (A : Option Addr) (c : Nat) (l : List Cut) (w : World) (hl : RdRow w A l.length 3 (elC l)) (hm : l.length ≤ 17) :
    Calls Try.prog 24 #[.agg #[I id, I day, I al, I ma, I fa, I fm, .slice A l.length c]] w fun e w' => e = .returned (I (refCheckE id day al ma fa fm l)) ∧ Below w.heap.size w w' := by
  refine enterPlain tfine Try.func24 rfl 174 Try.ntmps24 [.agg [.k (I id), .k (I day), .k (I al), .k (I ma), .k (I fa), .k (I fm), .inp 1000 A l.length c]] [⟨1000, A, 3, l.length, elC l⟩] rfl rfl ⟨hl, trivial⟩ ⟨⟨trivial, trivial, trivial, trivial, trivial, trivial, .inl ⟨rfl, rfl, rfl⟩, trivial⟩, trivial⟩ ?_
  refine G.seqR tfine rfl trivial ?_
  refine G.seq ?_
  refine G.seqR tfine rfl ?_ ?_
  · simp [AllP, condB]
  refine G.cond (b := hdB id day) rfl (fun h1 => ?_) (fun h1 => ?_)
  · refine G.seqR tfine rfl trivial ?_
    refine G.ret (endK.ret rfl ?_)
    rw [refCheckE, if_pos h1]
  refine G.skip ?_
  refine G.seq ?_
  refine G.seqC tfine rfl trivial ?_
  refine GO.callPlain (v := .bool (am al ma)) rfl rfl rfl rfl (fun args w => Try.call48 args w) (fun ρ w hs hok => spileref35_amounts_any _ _ w) ?_
  refine GO.more tfine rfl ?_ ?_
  · simp [AllP, condB]
  refine GO.callGuard (.bool (am fa fm)) rfl rfl rfl (by first | exact trivial | exact ⟨fun h => h, trivial⟩ | exact ⟨fun h => h, fun h => h, trivial⟩) rfl rfl (fun args w => Try.call48 args w) rfl (fun _ m' hle ρ w hs hok => spileref35_amounts_any _ _ w) ?_
  refine GO.fin tfine rfl ?_ ?_
  · simp [AllP, condB]
  refine G.cond (b := (!(am al ma) || !(am fa fm))) rfl (fun h2 => ?_) (fun h2 => ?_)
  · refine G.seqR tfine rfl trivial ?_
    refine G.ret (endK.ret rfl ?_)
    rw [refCheckE, if_neg (fne h1), if_pos h2]
  refine G.skip ?_
  refine G.seq (G.seqR tfine rfl trivial ?_)
  refine G.block (G.loop (fun k : Nat => St.of [(1, .v (.c (.ptr 1 0 0 0))), (3, .v (.c (.k (I k))))] [(1, .var 24 [.k (I id), .k (I day), .k (I al), .k (I ma), .k (I fa), .k (I fm), .inp 1000 A l.length c]), (1000, .ro 3 l.length (elC l))])
    (fun k => k ≤ l.length ∧ l.any outB = (l.drop k).any outB) (fun k => l.length - k) 0 ⟨by omega, rfl⟩ (St.le_of rfl ⟨⟨_, rfl, Blk.le_refl _⟩, ⟨_, rfl, Blk.le_refl _⟩, trivial⟩ ⟨rfl, rfl, trivial⟩) ?_)
  rintro k ⟨hk, ha⟩
  refine G.seq (G.seqR tfine rfl trivial ?_)
  refine G.cond (b := decide ((k : Int) < (l.length : Int))) rfl (fun h => ?_) (fun h => ?_)
  rotate_left
  · have h := of_decide_eq_false h
    have : k = l.length := by omega
    subst this
    refine G.exit ?_
    rw [List.drop_length] at ha
    have h3 : l.any outB = false := ha
    refine G.seq ?_
    refine G.seqR tfine rfl ?_ ?_
    · simp [AllP, condB]
      refine ⟨fun h => ?_, fun h h' => ⟨h, h'⟩⟩
      rcases Int.lt_or_le 0 al with h9 | h9
      · exact .inr (h h9)
      · exact .inl h9
    refine G.cond (b := mis2 al ma fa fm) rfl (fun h4 => ?_) (fun h4 => ?_)
    · refine G.seqR tfine rfl trivial ?_
      refine G.ret (endK.ret rfl ?_)
      rw [refCheckE, if_neg (fne h1), if_neg (fne h2), if_neg (fne h3), if_pos h4]
    refine G.skip ?_
    refine G.seq (G.seqR tfine rfl trivial ?_)
    refine G.block (G.loop (fun k : Nat => St.of [(1, .v (.c (.ptr 1 0 0 0))), (4, .v (.c (.k (I k))))] [(1, .var 24 [.k (I id), .k (I day), .k (I al), .k (I ma), .k (I fa), .k (I fm), .inp 1000 A l.length c]), (1000, .ro 3 l.length (elC l))])
      (fun k => k ≤ l.length ∧ l.any voidB = (l.drop k).any voidB) (fun k => l.length - k) 0 ⟨by omega, rfl⟩ (St.le_of rfl ⟨⟨_, rfl, Blk.le_refl _⟩, ⟨_, rfl, Blk.le_refl _⟩, trivial⟩ ⟨rfl, rfl, trivial⟩) ?_)
    rintro k ⟨hk, ha⟩
    refine G.seq (G.seqR tfine rfl trivial ?_)
    refine G.cond (b := decide ((k : Int) < (l.length : Int))) rfl (fun h => ?_) (fun h => ?_)
    rotate_left
    · have h := of_decide_eq_false h
      have : k = l.length := by omega
      subst this
      refine G.exit ?_
      rw [List.drop_length] at ha
      have h5 : l.any voidB = false := ha
      refine G.seq ?_
      refine G.seqR tfine rfl trivial ?_
      refine G.cond (b := ((l.length : Int) == 0)) rfl (fun h6 => ?_) (fun h6 => ?_)
      · refine G.seqR tfine rfl trivial ?_
        refine G.ret (endK.ret rfl ?_)
        have : l.length = 0 := by simpa using h6
        rw [refCheckE, if_neg (fne h1), if_neg (fne h2), if_neg (fne h3), if_neg (fne h4), if_neg (fne h5), if_pos this]
      have h6 : ¬ l.length = 0 := by simpa using h6
      refine G.skip ?_
      refine G.seq ?_
      refine G.seqR tfine rfl trivial ?_
      refine G.cond (b := decide ((l.length : Int) > 16)) rfl (fun h7 => ?_) (fun h7 => ?_)
      · refine G.seqR tfine rfl trivial ?_
        refine G.ret (endK.ret rfl ?_)
        have := of_decide_eq_true h7
        rw [refCheckE, if_neg (fne h1), if_neg (fne h2), if_neg (fne h3), if_neg (fne h4), if_neg (fne h5), if_neg h6, if_pos (by omega)]
      have h7 : ¬ 16 < l.length := by have := of_decide_eq_false h7; omega
      have base : cutF l 0 l.length ≠ 0 → refCheckE id day al ma fa fm l = cutF l 0 l.length := by
        intro h8
        rw [refCheckE, if_neg (fne h1), if_neg (fne h2), if_neg (fne h3), if_neg (fne h4), if_neg (fne h5), if_neg h6, if_neg h7, if_pos h8]
      refine G.skip ?_
      refine G.seq (G.seqR tfine rfl trivial ?_)
      refine G.block (G.loop (fun k : Nat => St.of [(1, .v (.c (.ptr 1 0 0 0))), (5, .v (.c (.k (I k))))] [(1, .var 24 [.k (I id), .k (I day), .k (I al), .k (I ma), .k (I fa), .k (I fm), .inp 1000 A l.length c]), (1000, .ro 3 l.length (elC l))])
        (fun k => k ≤ l.length ∧ cutF l 0 l.length = cutF l k (l.length - k)) (fun k => l.length - k) 0 ⟨by omega, rfl⟩ (St.le_of rfl ⟨⟨_, rfl, Blk.le_refl _⟩, ⟨_, rfl, Blk.le_refl _⟩, trivial⟩ ⟨rfl, rfl, trivial⟩) ?_)
      rintro k ⟨hk, ha⟩
      refine G.seq (G.seqR tfine rfl trivial ?_)
      refine G.cond (b := decide ((k : Int) < (l.length : Int))) rfl (fun h => ?_) (fun h => ?_)
      rotate_left
      · have h := of_decide_eq_false h
        have : k = l.length := by omega
        subst this
        refine G.exit ?_
        rw [Nat.sub_self] at ha
        have h8 : ¬ cutF l 0 l.length ≠ 0 := by rw [ha]; simp [cutF]
        refine G.seqC tfine rfl trivial ?_
        refine GO.callPlain (v := .tuple #[I (rsum l 0).1, I (rsum l 0).2]) rfl rfl rfl rfl (fun args w => Try.call32 args w) (fun ρ w hs hok => refSum_any id day al ma fa fm 0 A c l w (hs.row (cap := c) rfl (hok _ List.mem_cons_self _ (List.mem_cons_of_mem _ (List.mem_cons_of_mem _ (List.mem_cons_of_mem _ (List.mem_cons_of_mem _ (List.mem_cons_of_mem _ (List.mem_cons_of_mem _ List.mem_cons_self)))))))) hm) ?_
        refine GO.fin tfine rfl trivial ?_
        refine G.seq ?_
        refine G.seqC tfine rfl trivial ?_
        refine GO.callPlain (v := .bool (am (rsum l 0).1 (rsum l 0).2)) rfl rfl rfl rfl (fun args w => Try.call48 args w) (fun ρ w hs hok => spileref35_amounts_any _ _ w) ?_
        refine GO.more tfine rfl ?_ ?_
        · simp [AllP, condB]
        refine GO.callGuard (.bool (am (IntKind.i64.wrap (al + fa)) (IntKind.i64.wrap (ma + fm)))) rfl rfl rfl (by first | exact trivial | exact ⟨fun h => h, trivial⟩ | exact ⟨fun h => h, fun h => h, trivial⟩) rfl rfl (fun args w => Try.call48 args w) rfl (fun _ m' hle ρ w hs hok => spileref35_amounts_any _ _ w) ?_
        refine GO.fin tfine rfl ?_ ?_
        · simp [AllP, condB]
        refine G.cond (b := limB al ma fa fm l) rfl (fun h9 => ?_) (fun h9 => ?_)
        · refine G.seqR tfine rfl trivial ?_
          refine G.ret (endK.ret rfl ?_)
          rw [refCheckE, if_neg (fne h1), if_neg (fne h2), if_neg (fne h3), if_neg (fne h4), if_neg (fne h5), if_neg h6, if_neg h7, if_neg h8, if_pos h9]
        refine G.skip ?_
        refine G.seqR tfine rfl trivial ?_
        refine G.ret (endK.ret rfl ?_)
        rw [refCheckE, if_neg (fne h1), if_neg (fne h2), if_neg (fne h3), if_neg (fne h4), if_neg (fne h5), if_neg h6, if_neg h7, if_neg h8, if_neg (fne h9)]
      have h := of_decide_eq_true h
      have hlt : k < l.length := by omega
      refine G.skip (G.seq (G.block ?_))
      have hs : l.length - k = (l.length - (k + 1)) + 1 := by omega
      rw [hs, cutF] at ha
      refine G.seq ?_
      refine G.seqR tfine rfl ?_ ?_
      · simp [AllP, condB]; omega
      rw [Int.toNat_natCast]
      refine G.cond (b := (decide ((l.getD k cut0).k < 1) || decide ((l.getD k cut0).k > 4))) rfl (fun h3 => ?_) (fun h3 => ?_)
      · refine G.seqR tfine rfl trivial ?_
        refine G.ret (endK.ret rfl ?_)
        rw [if_pos h3] at ha
        rw [base (by rw [ha]; decide), ha]
      rw [if_neg (fne h3)] at ha
      refine G.skip ?_
      have ek : IntKind.i64.wrap ((k : Int) - 1) = (k : Int) - 1 := IntWalk.i64_in _ (by omega)
      refine G.seqD tfine hmix [0, 1, 3, 7, 15, 7, 63, 127, 255, 7, 519, 7, 2055, 7687, 15879, 32263, 65535, 131071] [] rfl rfl rfl rfl ?_ ?_
      · simp only [AllP, condB]
        rw [ek]
        and_intros <;> first
          | trivial
          | (intro h5
             have := of_decide_eq_true h5
             and_intros <;> first | trivial | omega)
          | (intro h5; exact h5)
      have e2 : (IntKind.i64.wrap ((k : Int) - 1)).toNat = k - 1 := by rw [ek]; omega
      rw [e2, Int.toNat_natCast]
      refine G.cond (b := (decide ((k : Int) > 0) && decide ((l.getD k cut0).k < (l.getD (k - 1) cut0).k))) rfl (fun h4 => ?_) (fun h4 => ?_)
      · refine G.seqR tfine rfl trivial ?_
        refine G.ret (endK.ret rfl ?_)
        rw [if_pos h4] at ha
        rw [base (by rw [ha]; decide), ha]
      rw [if_neg (fne h4)] at ha
      refine G.skip ?_
      refine G.reg tfine rfl trivial ?_
      rw [IntWalk.i64_in ((k : Int) + 1) (by omega)]
      exact ⟨k + 1, ⟨by omega, ha⟩, (by show l.length - (k + 1) < l.length - k; omega), St.le_of rfl ⟨⟨_, rfl, Blk.le_refl _⟩, ⟨_, rfl, Blk.le_refl _⟩, trivial⟩ ⟨rfl, by simp [up, I], trivial⟩⟩
    have h := of_decide_eq_true h
    have hlt : k < l.length := by omega
    refine G.skip (G.seq (G.block ?_))
    have hd : l.drop k = l.getD k cut0 :: l.drop (k + 1) := by
      rw [List.getD_eq_getElem?_getD, List.getElem?_eq_getElem hlt, Option.getD_some, List.drop_eq_getElem_cons hlt]
    rw [hd, List.any_cons] at ha
    refine G.seqR tfine rfl ?_ ?_
    · simp [AllP, condB]; omega
    rw [Int.toNat_natCast]
    refine G.cond (b := voidB (l.getD k cut0)) rfl (fun h5 => ?_) (fun h5 => ?_)
    · refine G.seqR tfine rfl trivial ?_
      refine G.ret (endK.ret rfl ?_)
      rw [h5, Bool.true_or] at ha
      rw [refCheckE, if_neg (fne h1), if_neg (fne h2), if_neg (fne h3), if_neg (fne h4), if_pos ha]
    rw [h5, Bool.false_or] at ha
    refine G.skip ?_
    refine G.reg tfine rfl trivial ?_
    rw [IntWalk.i64_in ((k : Int) + 1) (by omega)]
    exact ⟨k + 1, ⟨by omega, ha⟩, (by show l.length - (k + 1) < l.length - k; omega), St.le_of rfl ⟨⟨_, rfl, Blk.le_refl _⟩, ⟨_, rfl, Blk.le_refl _⟩, trivial⟩ ⟨rfl, by simp [up, I], trivial⟩⟩
  have h := of_decide_eq_true h
  have hlt : k < l.length := by omega
  refine G.skip (G.seq (G.block ?_))
  have hd : l.drop k = l.getD k cut0 :: l.drop (k + 1) := by
    rw [List.getD_eq_getElem?_getD, List.getElem?_eq_getElem hlt, Option.getD_some, List.drop_eq_getElem_cons hlt]
  rw [hd, List.any_cons] at ha
  refine G.seqDraw hmix [0, 1, 0, 7, 15, 31, 0, 64, 0, 448, 960, 1984, 4095, 8191] [] rfl rfl rfl ?_
  refine GD.more tfine 0 rfl rfl ?_ ?_
  · simp [AllP]; omega
  rw [Int.toNat_natCast]
  refine GD.call (v := .bool (am (l.getD k cut0).a (l.getD k cut0).m)) 12 rfl rfl rfl rfl rfl (fun args w => Try.call48 args w) (fun m hle ρ w hs hok => spileref35_amounts_any _ _ w) ?_
  refine GD.fin tfine 13 rfl rfl trivial ?_
  refine G.cond (b := outB (l.getD k cut0)) rfl (fun h3 => ?_) (fun h3 => ?_)
  · refine G.seqR tfine rfl trivial ?_
    refine G.ret (endK.ret rfl ?_)
    rw [h3, Bool.true_or] at ha
    rw [refCheckE, if_neg (fne h1), if_neg (fne h2), if_pos ha]
  rw [h3, Bool.false_or] at ha
  refine G.skip ?_
  refine G.reg tfine rfl trivial ?_
  rw [IntWalk.i64_in ((k : Int) + 1) (by omega)]
  exact ⟨k + 1, ⟨by omega, ha⟩, (by show l.length - (k + 1) < l.length - k; omega), St.le_of rfl ⟨⟨_, rfl, Blk.le_refl _⟩, ⟨_, rfl, Blk.le_refl _⟩, trivial⟩ ⟨rfl, by simp [up, I], trivial⟩⟩
end Go.Proofs.Ytmdgaifonpgojaa
/- Chapter 35: what a run without faults is; both Checks agree. -/
set_option linter.unusedVariables false
set_option linter.unusedSimpArgs false
set_option maxRecDepth 8000
set_option maxHeartbeats 1000000
namespace Go.Proofs.Ytmdgaifonpgojaa
open Go.Sx Go.RowKit
def inR (a m : Int) : Prop := (0 ≤ a ∧ a ≤ 10737418240000) ∧ (0 ≤ m ∧ m ≤ 128849018880000)
theorem am_iff (a m : Int) : am a m = true ↔ inR a m := by
  simp [am, spileref35_amounts, inR]
  omega
theorem p42_eq (f : Fl) : p42 f = am f.1 f.2 := rfl
def plus (q : Cut → Bool) (s : Fl) (x : Cut) : Fl := if q x = true then (s.1 + x.a, s.2 + x.m) else s
def psum (l : List Cut) (q : Cut → Bool) : Fl := l.foldl (plus q) (0, 0)
theorem cutF_ok (l : List Cut) (k m : Nat) (h : cutF l k m = 0) : ∀ i, k ≤ i → i < k + m → 1 ≤ (l.getD i cut0).k ∧ (l.getD i cut0).k ≤ 4 := by
  induction m generalizing k with
  | zero => intro i h1 h2; omega
  | succ m ih =>
    rw [cutF] at h
    split at h
    · cases h
    rename_i h1
    split at h
    · cases h
    intro i h2 h3
    by_cases e : i = k
    · subst e
      simp [-List.getD_eq_getElem?_getD] at h1
      omega
    · exact ih (k + 1) h i (by omega) (by omega)
structure OkRun (id day al ma fa fm : Int) (l : List Cut) : Prop where
  ch : inR al ma
  fe : inR fa fm
  pos : 0 < l.length
  len : l.length ≤ 16
  cut : ∀ i, i < l.length → inR (l.getD i cut0).a (l.getD i cut0).m ∧ 1 ≤ (l.getD i cut0).k ∧ (l.getD i cut0).k ≤ 4
  lim1 : inR (rsum l 0).1 (rsum l 0).2
  lim2 : inR (al + fa) (ma + fm)
theorem wrapA {x : Int} (h : -9223372036854775808 ≤ x ∧ x ≤ 9223372036854775807) : IntKind.i64.wrap x = x := IntWalk.i64_in x (by omega)
theorem okRun_of {id day al ma fa fm : Int} {l : List Cut} (h : refCheckE id day al ma fa fm l = 0) : OkRun id day al ma fa fm l := by
  unfold refCheckE at h
  split at h
  · cases h
  split at h
  · cases h
  rename_i h2
  split at h
  · cases h
  rename_i h3
  split at h
  · cases h
  split at h
  · cases h
  split at h
  · cases h
  rename_i h6
  split at h
  · cases h
  rename_i h7
  split at h
  · rename_i h8
    exact absurd h h8
  rename_i h8
  have h8 : cutF l 0 l.length = 0 := by
    by_cases e : cutF l 0 l.length = 0
    · exact e
    · exact absurd e h8
  split at h
  · cases h
  rename_i h9
  simp only [Bool.or_eq_true, Bool.not_eq_true', not_or, Bool.not_eq_false] at h2
  have a1 := (am_iff _ _).1 h2.1
  have a2 := (am_iff _ _).1 h2.2
  simp only [limB, Bool.or_eq_true, Bool.not_eq_true', not_or, Bool.not_eq_false] at h9
  have a3 := (am_iff _ _).1 h9.1
  have a4 := (am_iff _ _).1 h9.2
  have e1 : IntKind.i64.wrap (al + fa) = al + fa := wrapA (by unfold inR at a1 a2; omega)
  have e2 : IntKind.i64.wrap (ma + fm) = ma + fm := wrapA (by unfold inR at a1 a2; omega)
  rw [e1, e2] at a4
  refine ⟨a1, a2, by omega, by omega, fun i hi => ⟨?_, cutF_ok l 0 l.length h8 i (by omega) (by omega)⟩, a3, a4⟩
  refine (am_iff _ _).1 ?_
  simp only [List.any_eq_true, not_exists, not_and, outB, Bool.not_eq_true', Bool.not_eq_false] at h3
  have := h3 (l.getD i cut0) (by rw [List.getD_eq_getElem?_getD, List.getElem?_eq_getElem hi]; simp)
  exact this
theorem any_imp {α : Type} {p q : α → Bool} {l : List α} (h : ∀ x ∈ l, p x = q x) : l.any p = l.any q := by
  induction l with
  | nil => rfl
  | cons a r ih => rw [List.any_cons, List.any_cons, h a (by simp), ih fun x hx => h x (by simp [hx])]
theorem not_all {α : Type} (p : α → Bool) (l : List α) : (!(l.all p)) = l.any fun x => !(p x) := by
  induction l with
  | nil => rfl
  | cons a r ih => rw [List.all_cons, List.any_cons, Bool.not_and, ih]
theorem map_any {α β : Type} (f : α → β) (p : β → Bool) (l : List α) : (l.map f).any p = l.any fun x => p (f x) := by
  induction l with
  | nil => rfl
  | cons a r ih => rw [List.map_cons, List.any_cons, List.any_cons, ih]
theorem fold_map {α β γ : Type} (f : γ → β → γ) (g : α → β) (l : List α) (s : γ) : (l.map g).foldl f s = l.foldl (fun s x => f s (g x)) s := by
  induction l generalizing s with
  | nil => rfl
  | cons a r ih => rw [List.map_cons, List.foldl_cons, List.foldl_cons, ih]
theorem sum_tail (al ma fa fm : Int) (l : List Cut) : sumF ((flowsL al ma fa fm l).drop 2) = rsum l 0 := by
  show sumF (l.map fun c => (c.a, c.m)) = _
  rw [sumF, fold_map, rsum]
  congr 1
theorem sum_head {al ma fa fm : Int} {l : List Cut} (h1 : inR al ma) (h2 : inR fa fm) : sumF ((flowsL al ma fa fm l).take 2) = (IntKind.i64.wrap (al + fa), IntKind.i64.wrap (ma + fm)) := by
  show (IntKind.i64.wrap (IntKind.i64.wrap (0 + al) + fa), IntKind.i64.wrap (IntKind.i64.wrap (0 + ma) + fm)) = _
  unfold inR at h1 h2
  rw [wrapA (x := 0 + al) (by omega), wrapA (x := 0 + ma) (by omega), Int.zero_add, Int.zero_add]
theorem flows_any' (al ma fa fm : Int) (l : List Cut) (p : Fl → Bool) : (flowsL al ma fa fm l).any p = (p (al, ma) || (p (fa, fm) || l.any fun c => p (c.a, c.m))) := by
  rw [flowsL, List.any_cons, List.any_cons, map_any]
/-- Both Checks answer the same. -/
theorem check_eq (id day al ma fa fm : Int) (l : List Cut) : checkE id day al ma fa fm l = refCheckE id day al ma fa fm l := by
  have e1 : chk1 id day (flowsL al ma fa fm l) = if (hdB id day || (!(am al ma) || (!(am fa fm) || l.any outB))) = true then 2 else 0 := by
    rw [chk1, not_all, flows_any']; rfl
  by_cases h1 : (hdB id day || (!(am al ma) || (!(am fa fm) || l.any outB))) = true
  · rw [if_pos h1] at e1
    rw [checkE, e1, if_pos (by decide), refCheckE]
    split
    · rfl
    rename_i c1
    split
    · rfl
    rename_i c2
    split
    · rfl
    rename_i c3
    simp only [Bool.or_eq_true, not_or] at h1 c2
    rcases h1 with h | h | h | h
    · exact absurd h c1
    · exact absurd h c2.1
    · exact absurd h c2.2
    · exact absurd h c3
  rw [if_neg h1] at e1
  simp only [Bool.or_eq_true, not_or] at h1
  obtain ⟨c1, c2, c3, c4⟩ := h1
  have c2' := (am_iff al ma).1 (by simpa using c2)
  have c3' := (am_iff fa fm).1 (by simpa using c3)
  have e2 : chk2 (flowsL al ma fa fm l) = if (mis2 al ma fa fm || l.any voidB) = true then 10 else 0 := by
    rw [chk2, not_all, flows_any']
    have q : ∀ a m : Int, inR a m → (!(p44 (a, m))) = (decide (a > 0) && (m == 0)) := by
      intro a m h
      unfold inR at h
      rw [Bool.eq_iff_iff]
      simp [p44, run_Check_2_1]
      omega
    have hl : (l.any fun c => !(p44 (c.a, c.m))) = l.any voidB := by
      refine any_imp fun x hx => ?_
      refine q x.a x.m ((am_iff _ _).1 ?_)
      have c4' : l.any outB = false := by simpa using c4
      rw [List.any_eq_false] at c4'
      have := c4' x hx
      simpa [outB] using this
    rw [q al ma c2', q fa fm c3', hl, mis2, Bool.or_assoc]
  have r : ∀ x : Int, refCheckE id day al ma fa fm l = if mis2 al ma fa fm = true then 10 else if l.any voidB = true then 10 else
    if l.length = 0 then 9 else if 16 < l.length then 8 else if cutF l 0 l.length ≠ 0 then cutF l 0 l.length else if limB al ma fa fm l = true then 15 else 0 := by
    intro x
    rw [refCheckE, if_neg c1, if_neg (by simp only [Bool.or_eq_true, not_or]; exact ⟨c2, c3⟩), if_neg c4]
  rw [r 0, checkE, e1, if_neg (by decide), e2]
  by_cases h2 : (mis2 al ma fa fm || l.any voidB) = true
  · rw [if_pos h2, if_pos (by decide)]
    split
    · rfl
    split
    · rfl
    simp only [Bool.or_eq_true] at h2
    rcases h2 with h | h <;> contradiction
  rw [if_neg h2, if_neg (by decide)]
  simp only [Bool.or_eq_true, not_or] at h2
  rw [if_neg h2.1, if_neg h2.2]
  have e4 : chk4 (flowsL al ma fa fm l) = if limB al ma fa fm l = true then 15 else 0 := by
    rw [chk4, sum_tail, sum_head c2' c3', p42_eq, p42_eq, limB, Bool.or_comm]
  unfold cutsE
  split
  · rfl
  split
  · rfl
  rw [e4]
  by_cases h3 : cutF l 0 l.length = 0
  · rw [h3]
    cases limB al ma fa fm l <;> rfl
  · rw [if_pos (by simpa using h3), if_pos h3]
theorem okRun_check {id day al ma fa fm : Int} {l : List Cut} (h : checkE id day al ma fa fm l = 0) : OkRun id day al ma fa fm l := okRun_of (by rw [← check_eq]; exact h)
/-- The sums of a run without faults, plainly. -/
def inL (l : List Cut) : Prop := ∀ i, i < l.length → inR (l.getD i cut0).a (l.getD i cut0).m
theorem plus_take {l : List Cut} (hl : inL l) (hn : l.length ≤ 17) (q : Cut → Bool) (k : Nat) (hk : k ≤ l.length) : (0 ≤ (psum (l.take k) q).1 ∧ (psum (l.take k) q).1 ≤ k * 10737418240000) ∧ (0 ≤ (psum (l.take k) q).2 ∧ (psum (l.take k) q).2 ≤ k * 128849018880000) := by
  induction k with
  | zero => exact ⟨⟨Int.le_refl _, Int.le_refl _⟩, Int.le_refl _, Int.le_refl _⟩
  | succ k ih =>
    have e := take_fold (plus q) (0, 0) l cut0 k (by omega)
    have h := ih (by omega)
    have hi := hl k (by omega)
    unfold inR at hi
    unfold psum at h ⊢
    rw [e]
    generalize (l.take k).foldl (plus q) (0, 0) = s at h ⊢
    unfold plus
    split
    · simp only
      omega
    · omega
theorem rsum_take {l : List Cut} (hl : inL l) (hn : l.length ≤ 17) (kd : Int) (k : Nat) (hk : k ≤ l.length) : (l.take k).foldl (addK kd) (0, 0) = psum (l.take k) (kindB kd) := by
  induction k with
  | zero => rfl
  | succ k ih =>
    have h := ih (by omega)
    have b := plus_take hl hn (kindB kd) k (by omega)
    have hi := hl k (by omega)
    unfold inR at hi
    rw [take_fold (addK kd) (0, 0) l cut0 k (by omega), h]
    unfold psum at b ⊢
    rw [take_fold (plus (kindB kd)) (0, 0) l cut0 k (by omega)]
    generalize (l.take k).foldl (plus (kindB kd)) (0, 0) = s at b ⊢
    unfold addK plus addF
    split
    · rw [wrapA (by omega), wrapA (by omega)]
    · rfl
theorem rsum_eq {l : List Cut} (hl : inL l) (hn : l.length ≤ 17) (kd : Int) : rsum l kd = psum l (kindB kd) := by
  have := rsum_take hl hn kd l.length (Nat.le_refl _)
  rwa [List.take_length] at this
theorem psum_bound {l : List Cut} (hl : inL l) (hn : l.length ≤ 17) (q : Cut → Bool) : (0 ≤ (psum l q).1 ∧ (psum l q).1 ≤ 17 * 10737418240000) ∧ (0 ≤ (psum l q).2 ∧ (psum l q).2 ≤ 17 * 128849018880000) := by
  have := plus_take hl hn q l.length (Nat.le_refl _)
  rw [List.take_length] at this
  omega
theorem OkRun.inl {id day al ma fa fm : Int} {l : List Cut} (h : OkRun id day al ma fa fm l) : inL l := fun i hi => (h.cut i hi).1
end Go.Proofs.Ytmdgaifonpgojaa
/- Chapter 35: the sums by kinds, the balance, comparisons, reduction. -/
set_option linter.unusedVariables false
set_option linter.unusedSimpArgs false
set_option maxRecDepth 8000
set_option maxHeartbeats 1000000
namespace Go.Proofs.Ytmdgaifonpgojaa
open Go.Sx Go.RowKit
def elK (f : Nat → Fl) (i : Nat) : List Value := [I (f i).1, I (f i).2]
def qk (j : Int) (x : Cut) : Bool := x.k == j
def kf (l : List Cut) (j : Nat) : Fl := psum l (qk (j : Int))
theorem psum_succ (l : List Cut) (q : Cut → Bool) (k : Nat) (h : k < l.length) : psum (l.take (k + 1)) q = plus q (psum (l.take k) q) (l.getD k cut0) := take_fold (plus q) (0, 0) l cut0 k h
theorem kinds_any (id day al ma fa fm : Int) (A : Option Addr) (c : Nat) (l : List Cut) (w : World) (hl : RdRow w A l.length 3 (elC l)) (hm : l.length ≤ 17) (ok : OkRun id day al ma fa fm l) :
    Calls Try.prog 36 #[.agg #[I id, I day, I al, I ma, I fa, I fm, .slice A l.length c]] w fun e w' => e = .returned (.agg #[I (kf l 0).1, I (kf l 0).2, I (kf l 1).1, I (kf l 1).2, I (kf l 2).1, I (kf l 2).2, I (kf l 3).1, I (kf l 3).2, I (kf l 4).1, I (kf l 4).2]) ∧ Below w.heap.size w w' := by
  refine enterPlain tfine Try.func36 rfl 29 Try.ntmps36 [.agg [.k (I id), .k (I day), .k (I al), .k (I ma), .k (I fa), .k (I fm), .inp 1000 A l.length c]] [⟨1000, A, 3, l.length, elC l⟩] rfl rfl ⟨hl, trivial⟩ ⟨⟨trivial, trivial, trivial, trivial, trivial, trivial, .inl ⟨rfl, rfl, rfl⟩, trivial⟩, trivial⟩ ?_
  refine G.seqR tfine rfl trivial ?_
  refine G.seqR tfine rfl trivial ?_
  refine G.seq (G.seqR tfine rfl trivial ?_)
  refine G.block (G.loop (fun k : Nat => St.of [(2, .v (.c (.ptr 2 0 2 0))), (3, .v (.c (.ptr 3 0 2 0))), (7, .v (.c (.inp 1000 A l.length c))), (8, .v (.c (.k (I l.length)))), (9, .v (.c (.k (I k))))] [(2, .arr 55 2 5 (fun _ => [I 0, I 0]) 0), (3, .arr 55 2 5 (elK (kf (l.take k))) 0), (1000, .ro 3 l.length (elC l))])
    (fun k => k ≤ l.length) (fun k => l.length - k) 0 (by omega) (St.le_of rfl ⟨⟨_, rfl, rfl, rfl, Nat.le_refl _, fun i hi => rfl, Nat.le_refl _⟩, ⟨_, rfl, rfl, rfl, Nat.le_refl _, fun i hi => rfl, Nat.le_refl _⟩, ⟨_, rfl, Blk.le_refl _⟩, trivial⟩ ⟨rfl, rfl, rfl, rfl, rfl, trivial⟩) ?_)
  intro k hk
  refine G.seqR tfine rfl trivial ?_
  refine G.seq (G.cond (b := decide ((k : Int) < (l.length : Int))) rfl (fun h => ?_) (fun h => ?_))
  rotate_left
  · have h := of_decide_eq_false h
    have : k = l.length := by omega
    subst this
    refine G.exit ?_
    refine G.seqR tfine rfl trivial ?_
    refine G.ret (endK.ret rfl ?_)
    rw [List.take_length]
  have h := of_decide_eq_true h
  have hlt : k < l.length := by omega
  refine G.skip ?_
  refine G.seq (G.block ?_)
  refine G.seqR tfine rfl ⟨by simpa using hlt, by omega, by omega, trivial⟩ ?_
  rw [Int.toNat_natCast]
  obtain ⟨hr, k1, k2⟩ := ok.cut k hlt
  have hkn : ((l.getD k cut0).k.toNat : Int) = (l.getD k cut0).k := Int.toNat_of_nonneg (by omega)
  have b := plus_take ok.inl hm (qk ((l.getD k cut0).k.toNat : Int)) k hk
  have e : sumF [kf (l.take k) (l.getD k cut0).k.toNat, ((l.getD k cut0).a, (l.getD k cut0).m)] = ((kf (l.take k) (l.getD k cut0).k.toNat).1 + (l.getD k cut0).a, (kf (l.take k) (l.getD k cut0).k.toNat).2 + (l.getD k cut0).m) := by
    unfold inR at hr
    unfold kf
    generalize psum (l.take k) (qk ((l.getD k cut0).k.toNat : Int)) = s at b ⊢
    show (IntKind.i64.wrap (IntKind.i64.wrap (0 + s.1) + (l.getD k cut0).a), IntKind.i64.wrap (IntKind.i64.wrap (0 + s.2) + (l.getD k cut0).m)) = _
    rw [wrapA (x := 0 + s.1) (by omega), wrapA (x := 0 + s.2) (by omega), Int.zero_add, Int.zero_add, wrapA (by omega), wrapA (by omega)]
  refine G.draw (cls := [0, 1, 0, 4, 12, 28, 0, 64, 0, 256, 960, 2044, 4092, 8191, 16383]) (X := [(14, 3)]) hmix rfl rfl rfl ?_
  refine GD.more tfine 0 rfl rfl ?_ ?_
  · simp only [AllP]
    and_intros <;> first | trivial | omega
  rw [Nat.zero_add]
  refine GD.call (v := .agg #[I ((kf (l.take k) (l.getD k cut0).k.toNat).1 + (l.getD k cut0).a), I ((kf (l.take k) (l.getD k cut0).k.toNat).2 + (l.getD k cut0).m)]) 12 rfl rfl rfl rfl rfl (fun args w => Try.call38 args w) (fun m hle ρ w hs hok => ?_) ?_
  · have := sum_any _ 2 2 [kf (l.take k) (l.getD k cut0).k.toNat, ((l.getD k cut0).a, (l.getD k cut0).m)] w rfl ((hs.rdVar (x := 24) (sz := 2) (vs := [I (kf (l.take k) (l.getD k cut0).k.toNat).1, I (kf (l.take k) (l.getD k cut0).k.toNat).2, I (l.getD k cut0).a, I (l.getD k cut0).m]) (LeM.at hle rfl) 0 2 (by simp)).congr fun i hi => ?_) (by omega)
    · rw [e] at this
      exact this
    · rcases (show i = 0 ∨ i = 1 by omega) with rfl | rfl <;> rfl
  refine GD.fin tfine 13 rfl rfl ?_ ?_
  · simp only [AllP]
    and_intros <;> first | trivial | omega
  refine G.reg tfine rfl trivial ?_
  rw [IntWalk.i64_in ((k : Int) + 1) (by omega)]
  refine ⟨k + 1, (by show k + 1 ≤ l.length; omega), (by show l.length - (k + 1) < l.length - k; omega), St.le_of rfl ⟨⟨_, rfl, Blk.le_refl _⟩, ⟨_, rfl, rfl, rfl, Nat.le_refl _, fun i hi => ?_, Nat.le_refl _⟩, ⟨_, rfl, Blk.le_refl _⟩, trivial⟩ ⟨rfl, rfl, rfl, rfl, by simp [up, I], trivial⟩⟩
  cases b1 : Nat.beq i (l.getD k cut0).k.toNat with
  | true =>
    have ei := Nat.eq_of_beq_eq_true b1
    subst ei
    have q1 : qk ((l.getD k cut0).k.toNat : Int) (l.getD k cut0) = true := by unfold qk; rw [hkn]; simp
    simp only [b1, cond_true]
    unfold elK
    unfold kf
    rw [psum_succ l _ k hlt, plus, if_pos q1]
  | false =>
    have ne : i ≠ (l.getD k cut0).k.toNat := fun e => by rw [e] at b1; simp at b1
    have q1 : ¬ qk (i : Int) (l.getD k cut0) = true := by
      unfold qk
      intro hq
      have := eq_of_beq hq
      omega
    simp only [b1, cond_false]
    unfold elK
    unfold kf
    rw [psum_succ l _ k hlt, plus, if_neg q1]
end Go.Proofs.Ytmdgaifonpgojaa
/- Chapter 35: the balance, comparisons, reduction. -/
set_option linter.unusedVariables false
set_option linter.unusedSimpArgs false
set_option maxRecDepth 8000
set_option maxHeartbeats 1000000
namespace Go.Proofs.Ytmdgaifonpgojaa
open Go.Sx Go.RowKit
theorem balance_any (id day al ma fa fm : Int) (A : Option Addr) (c : Nat) (l : List Cut) (w : World) (hl : RdRow w A l.length 3 (elC l)) (hm : l.length ≤ 17) (ok : OkRun id day al ma fa fm l) :
    Calls Try.prog 30 #[.agg #[I id, I day, I al, I ma, I fa, I fm, .slice A l.length c]] w fun e w' => e = .returned (.tuple #[.agg #[I (al + fa), I (ma + fm)], .agg #[I (al + fa - (psum l (kindB 0)).1), I (ma + fm - (psum l (kindB 0)).2)]]) ∧ Below w.heap.size w w' := by
  refine enterPlain tfine Try.func30 rfl 27 Try.ntmps30 [.agg [.k (I id), .k (I day), .k (I al), .k (I ma), .k (I fa), .k (I fm), .inp 1000 A l.length c]] [⟨1000, A, 3, l.length, elC l⟩] rfl rfl ⟨hl, trivial⟩ ⟨⟨trivial, trivial, trivial, trivial, trivial, trivial, .inl ⟨rfl, rfl, rfl⟩, trivial⟩, trivial⟩ ?_
  have hpos := ok.pos
  have b0 := psum_bound ok.inl hm (kindB 0)
  have l2 := ok.lim2
  unfold inR at l2
  have e1 : sumF ((flowsL al ma fa fm l).take 2) = (al + fa, ma + fm) := by
    rw [sum_head ok.ch ok.fe, wrapA (by omega), wrapA (by omega)]
  have e2 : sumF ((flowsL al ma fa fm l).drop 2) = psum l (kindB 0) := by rw [sum_tail, rsum_eq ok.inl hm]
  refine G.seqR tfine rfl trivial ?_
  refine G.seqC tfine rfl trivial ?_
  refine GO.callRowC (el := elFl (flowsL al ma fa fm l)) (n := l.length + 2) rfl rfl rfl rfl rfl rfl rfl (fun args w => Try.call39 args w) (fun ρ w hs hok => flows_any id day al ma fa fm A c l w (hs.row (cap := c) rfl (hok _ List.mem_cons_self  _ (List.mem_cons_of_mem _ (List.mem_cons_of_mem _ (List.mem_cons_of_mem _ (List.mem_cons_of_mem _ (List.mem_cons_of_mem _ (List.mem_cons_of_mem _ List.mem_cons_self)))))))) hm) fun B c2 hc2 => ?_
  refine GO.fin tfine rfl trivial ?_
  have hn : l.length + 2 = (flowsL al ma fa fm l).length := (flowsL_len al ma fa fm l).symm
  refine G.seqDraw hmix [0, 1, 3, 0, 8, 31, 0, 0, 255, 511] [(8, 5), (9, 6)] rfl rfl rfl ?_
  refine GD.more tfine 0 rfl rfl ?_ ?_
  · simp only [AllP]
    and_intros <;> first | trivial | omega
  refine GD.call (v := .agg #[I (al + fa), I (ma + fm)]) 2 rfl rfl rfl rfl rfl (fun args w => Try.call38 args w) (fun m hle ρ w hs hok => ?_) ?_
  · have := sumHead B c2 (l.length + 2) (flowsL al ma fa fm l) hs (x := 8) (LeM.at hle rfl) (hok _ List.mem_cons_self) hn (by omega)
    rw [e1] at this
    exact this
  refine GD.more tfine 3 rfl rfl ?_ ?_
  · simp only [AllP]
    and_intros <;> first | trivial | omega
  refine GD.call (v := .agg #[I (psum l (kindB 0)).1, I (psum l (kindB 0)).2]) 5 rfl rfl rfl rfl rfl (fun args w => Try.call38 args w) (fun m hle ρ w hs hok => ?_) ?_
  · have := sumTail (l.length + 2) (flowsL al ma fa fm l) hs (x := 8) (LeM.at hle rfl) (c2 - 2) hn (by omega) (by omega)
    rw [e2] at this
    exact this
  refine GD.fin tfine 6 rfl rfl trivial ?_
  refine G.seqD tfine hmix [0, 0, 2, 0, 8, 30, 0, 64, 0, 256, 960, 2046, 1, 8191] [(12, 2), (13, 3)] rfl rfl rfl rfl trivial ?_
  refine G.ret (endK.ret rfl ?_)
  rw [wrapA (by omega), wrapA (by omega)]
/-- a * b is at most c * d -/
theorem most_any (a b c d : Nat) (ha : a < 9223372036854775808) (hb : b < 9223372036854775808) (hc : c < 9223372036854775808) (hd : d < 9223372036854775808) (w : World) :
    Calls Try.prog 33 #[I a, I b, I c, I d] w fun e w' => e = .returned (.bool (decide (a * b ≤ c * d))) ∧ Below w.heap.size w w' := by
  refine enterPlain tfine Try.func33 rfl 42 Try.ntmps33 [.c (.k (I a)), .c (.k (I b)), .c (.k (I c)), .c (.k (I d))] [] rfl rfl trivial ⟨trivial, trivial, trivial, trivial, trivial⟩ ?_
  refine G.seqR tfine rfl trivial ?_
  refine G.seqC tfine rfl trivial ?_
  rw [wrapU a (by omega), wrapU b (by omega)]
  refine GO.callPlain rfl rfl rfl rfl (fun args w => Try.call51 args w) (fun ρ w hm _ => mul64_any a b (by omega) (by omega) w) ?_
  refine GO.fin tfine rfl trivial ?_
  refine G.seqC tfine rfl trivial ?_
  rw [wrapU c (by omega), wrapU d (by omega)]
  refine GO.callPlain rfl rfl rfl rfl (fun args w => Try.call51 args w) (fun ρ w hm _ => mul64_any c d (by omega) (by omega) w) ?_
  refine GO.fin tfine rfl trivial ?_
  refine G.seqR tfine rfl ?_ ?_
  · simp [AllP, condB]
    try (intros; and_intros <;> assumption)
  refine G.ret (endK.ret rfl (vb ?_))
  rw [Bool.eq_iff_iff]
  simp
  omega
theorem within_any (mi wh to : Int) (hm : -4611686018427387904 < mi ∧ mi < 4611686018427387904) (hw : 0 ≤ wh ∧ wh < 4611686018427387904) (ht : 0 ≤ to ∧ to < 4611686018427387904) (w : World) :
    Calls Try.prog 34 #[I mi, I wh, I to] w fun e w' => e = .returned (.bool (decide (mi.natAbs * 1000000 ≤ wh.toNat * to.toNat))) ∧ Below w.heap.size w w' := by
  refine enterPlain tfine Try.func34 rfl 19 Try.ntmps34 [.c (.k (I mi)), .c (.k (I wh)), .c (.k (I to))] [] rfl rfl trivial ⟨trivial, trivial, trivial, trivial⟩ ?_
  have es : spileref35_size mi = (mi.natAbs : Int) := by
    unfold spileref35_size
    rw [wrapA (by omega)]
    split <;> omega
  have ew : wh = (wh.toNat : Int) := by omega
  have et : to = (to.toNat : Int) := by omega
  refine G.seqR tfine rfl trivial ?_
  refine G.seqC tfine rfl trivial ?_
  refine GO.callPlain (v := I (mi.natAbs : Int)) rfl rfl rfl rfl (fun args w => Try.call53 args w) (fun ρ w hs hok => by rw [← es]; exact spileref35_size_any mi w) ?_
  refine GO.callPlain rfl rfl rfl rfl (fun args w => Try.call52 args w) (fun ρ w hs hok => refProd_any mi.natAbs 1000000 (by omega) (by omega) w) ?_
  refine GO.more tfine rfl trivial ?_
  refine GO.callPlain (v := .agg #[U (wh.toNat * to.toNat / 4611686018427387904 : Nat), U (wh.toNat * to.toNat % 4611686018427387904 : Nat)]) rfl rfl rfl rfl (fun args w => Try.call52 args w) (fun ρ w hs hok => ?_) ?_
  · have := refProd_any wh.toNat to.toNat (by omega) (by omega) w
    rw [← ew, ← et] at this
    exact this
  refine GO.fin tfine rfl trivial ?_
  refine G.seqC tfine rfl trivial ?_
  refine GO.callPlain rfl rfl rfl rfl (fun args w => Try.call54 args w) (fun ρ w hs hok => less_any (wh.toNat * to.toNat) (mi.natAbs * 1000000) w) ?_
  refine GO.fin tfine rfl trivial ?_
  refine G.ret (endK.ret rfl (vb ?_))
  rw [Bool.eq_iff_iff]
  simp
/-- the least terms of a quotient -/
def red2 (a b : Int) : Int × Int × Int := if (!amtB a || !amtB b) = true then (0, 0, 2) else if (b == 0) = true then (0, 0, 16) else ((a.toNat / Nat.gcd a.toNat b.toNat : Nat), (b.toNat / Nat.gcd a.toNat b.toNat : Nat), 0)
theorem reduce_any (a b : Int) (w : World) : Calls Try.prog 35 #[I a, I b] w fun e w' => e = .returned (.tuple #[I (red2 a b).1, I (red2 a b).2.1, I (red2 a b).2.2]) ∧ Below w.heap.size w w' := by
  refine enterPlain tfine Try.func35 rfl 30 Try.ntmps35 [.c (.k (I a)), .c (.k (I b))] [] rfl rfl trivial ⟨trivial, trivial, trivial⟩ ?_
  refine G.seqR tfine rfl trivial ?_
  refine G.seq (G.seqC tfine rfl trivial ?_)
  refine GO.callPlain (v := .bool (!([a, b].any fun n => !amtB n))) rfl rfl rfl rfl (fun args w => Try.call55 args w) (fun ρ w hs hok => amounts_any _ 2 [a, b] w ((hs.rdVar (sz := 1) (vs := [I a, I b]) rfl 0 2 (by simp)).congr fun i hi => ?_) (by simp)) ?_
  · have hi : i < 2 := hi
    rcases (show i = 0 ∨ i = 1 by omega) with rfl | rfl <;> rfl
  refine GO.fin tfine rfl trivial ?_
  refine G.cond (b := !(!([a, b].any fun n => !amtB n))) rfl (fun h => ?_) (fun h => ?_)
  · refine G.seqR tfine rfl trivial ?_
    refine G.ret (endK.ret rfl ?_)
    rw [red2, if_pos (by simpa using h)]
  refine G.skip ?_
  refine G.seq (G.seqR tfine rfl trivial ?_)
  refine G.cond (b := (b == 0)) rfl (fun h2 => ?_) (fun h2 => ?_)
  · refine G.seqR tfine rfl trivial ?_
    refine G.ret (endK.ret rfl ?_)
    rw [red2, if_neg (by simpa using h), if_pos h2]
  have hall : amtB a = true ∧ amtB b = true := by simpa using h
  have ha := amtB_true hall.1
  have hb := amtB_true hall.2
  have hb0 : b ≠ 0 := by simpa using h2
  have hred : red2 a b = (((a.toNat / Nat.gcd a.toNat b.toNat : Nat) : Int), ((b.toNat / Nat.gcd a.toNat b.toNat : Nat) : Int), (0 : Int)) := by
    rw [red2, if_neg (by simp [hall.1, hall.2]), if_neg (fne h2)]
  unfold M at ha hb
  obtain ⟨x, hx⟩ := Int.eq_ofNat_of_zero_le ha.1
  obtain ⟨y, hy⟩ := Int.eq_ofNat_of_zero_le hb.1
  subst hx
  subst hy
  simp only [Int.toNat_natCast] at hred
  refine G.skip ?_
  refine G.seqR tfine rfl trivial ?_
  refine G.seq (G.block ?_)
  refine G.loop (fun z : Nat × Nat => St.of [(0, .v (.c (.k (I x)))), (1, .v (.c (.k (I y)))), (7, .v (.c (.k (I z.1)))), (8, .v (.c (.k (I z.2))))] [])
    (fun z => Nat.gcd z.1 z.2 = Nat.gcd x y ∧ z.1 < 9223372036854775808 ∧ z.2 < 9223372036854775808) (fun z => z.2) (x, y) ⟨rfl, by simp only; omega, by simp only; omega⟩ (St.le_of rfl trivial ⟨rfl, rfl, rfl, rfl, trivial⟩) ?_
  rintro ⟨p, q⟩ ⟨hg, hp, hq⟩
  dsimp only at hg hp hq ⊢
  refine G.seq (G.seqR tfine rfl trivial ?_)
  refine G.cond (b := decide ((q : Int) > 0)) rfl (fun h5 => ?_) (fun h5 => ?_)
  rotate_left
  · have h5 := of_decide_eq_false h5
    have : q = 0 := by omega
    subst this
    rw [Nat.gcd_zero_right] at hg
    have hgp : 0 < p := by
      rw [hg]
      exact Nat.gcd_pos_of_pos_right _ (by omega)
    refine G.exit ?_
    refine G.seqD tfine hmix [0, 0, 3, 0, 0, 24, 7, 127, 255] [] rfl rfl rfl rfl ?_ ?_
    · simp only [AllP]
      and_intros <;> first | trivial | omega
    refine G.ret (endK.ret rfl ?_)
    rw [hred, ← hg]
    have t1 : ((x : Int).tdiv (p : Int)) = ((x / p : Nat) : Int) := rfl
    have t2 : ((y : Int).tdiv (p : Int)) = ((y / p : Nat) : Int) := rfl
    have d1 : x / p ≤ x := Nat.div_le_self _ _
    have d2 : y / p ≤ y := Nat.div_le_self _ _
    rw [t1, t2]
    generalize x / p = u at d1 ⊢
    generalize y / p = v at d2 ⊢
    rw [wrapA (by omega), wrapA (by omega)]
  have h5 := of_decide_eq_true h5
  refine G.skip ?_
  refine G.block ?_
  refine G.regD tfine hmix [0, 0, 0, 6, 3, 31] [] rfl rfl rfl rfl ?_ ?_
  · simp only [AllP]
    and_intros <;> first | trivial | omega
  have hlt : p % q < q := Nat.mod_lt _ (by omega)
  have tm : ((p : Int).tmod (q : Int)) = ((p % q : Nat) : Int) := rfl
  rw [tm]
  refine ⟨(q, p % q), ⟨?_, hq, by dsimp only; omega⟩, hlt, St.le_of rfl trivial ⟨rfl, rfl, rfl, rfl, trivial⟩⟩
  dsimp only
  rw [Nat.gcd_comm, ← Nat.gcd_rec, Nat.gcd_comm, hg]
theorem refReduce_any (a b : Int) (w : World) : Calls Try.prog 37 #[I a, I b] w fun e w' => e = .returned (.tuple #[I (red2 a b).1, I (red2 a b).2.1, I (red2 a b).2.2]) ∧ Below w.heap.size w w' := by
  refine enterPlain tfine Try.func37 rfl 33 Try.ntmps37 [.c (.k (I a)), .c (.k (I b))] [] rfl rfl trivial ⟨trivial, trivial, trivial⟩ ?_
  refine G.seqR tfine rfl trivial ?_
  refine G.seq (G.seqC tfine rfl trivial ?_)
  refine GO.callPlain (v := .bool (amtB a)) rfl rfl rfl rfl (fun args w => Try.call56 args w) (fun ρ w hs hok => ref1Is_any _ w) ?_
  refine GO.more tfine rfl ?_ ?_
  · simp [AllP, condB]
  refine GO.callGuard (.bool (amtB b)) rfl rfl rfl (by first | exact trivial | exact ⟨fun h => h, trivial⟩ | exact ⟨fun h => h, fun h => h, trivial⟩) rfl rfl (fun args w => Try.call56 args w) rfl (fun _ m' hle ρ w hs hok => ref1Is_any _ w) ?_
  refine GO.fin tfine rfl ?_ ?_
  · simp [AllP, condB]
  refine G.cond (b := (!amtB a || !amtB b)) rfl (fun h => ?_) (fun h => ?_)
  · refine G.seqR tfine rfl trivial ?_
    refine G.ret (endK.ret rfl ?_)
    rw [red2, if_pos h]
  refine G.skip ?_
  refine G.seq (G.seqR tfine rfl trivial ?_)
  refine G.cond (b := (b == 0)) rfl (fun h2 => ?_) (fun h2 => ?_)
  · refine G.seqR tfine rfl trivial ?_
    refine G.ret (endK.ret rfl ?_)
    rw [red2, if_neg (fne h), if_pos h2]
  have hall : amtB a = true ∧ amtB b = true := by simpa using h
  have ha := amtB_true hall.1
  have hb := amtB_true hall.2
  have hb0 : b ≠ 0 := by simpa using h2
  have hred : red2 a b = (((a.toNat / Nat.gcd a.toNat b.toNat : Nat) : Int), ((b.toNat / Nat.gcd a.toNat b.toNat : Nat) : Int), (0 : Int)) := by
    rw [red2, if_neg (by simp [hall.1, hall.2]), if_neg (fne h2)]
  unfold M at ha hb
  obtain ⟨x, hx⟩ := Int.eq_ofNat_of_zero_le ha.1
  obtain ⟨y, hy⟩ := Int.eq_ofNat_of_zero_le hb.1
  subst hx
  subst hy
  simp only [Int.toNat_natCast] at hred
  refine G.skip ?_
  refine G.seqR tfine rfl trivial ?_
  refine G.seq (G.block ?_)
  refine G.loop (fun z : Nat × Nat => St.of [(0, .v (.c (.k (I x)))), (1, .v (.c (.k (I y)))), (7, .v (.c (.k (I z.1)))), (8, .v (.c (.k (I z.2))))] [])
    (fun z => Nat.gcd z.1 z.2 = Nat.gcd x y ∧ z.1 < 9223372036854775808 ∧ z.2 < 9223372036854775808) (fun z => z.2) (x, y) ⟨rfl, by simp only; omega, by simp only; omega⟩ (St.le_of rfl trivial ⟨rfl, rfl, rfl, rfl, trivial⟩) ?_
  rintro ⟨p, q⟩ ⟨hg, hp, hq⟩
  dsimp only at hg hp hq ⊢
  refine G.seq (G.seqR tfine rfl trivial ?_)
  refine G.cond (b := decide ((q : Int) > 0)) rfl (fun h5 => ?_) (fun h5 => ?_)
  rotate_left
  · have h5 := of_decide_eq_false h5
    have : q = 0 := by omega
    subst this
    rw [Nat.gcd_zero_right] at hg
    have hgp : 0 < p := by
      rw [hg]
      exact Nat.gcd_pos_of_pos_right _ (by omega)
    refine G.exit ?_
    refine G.seqD tfine hmix [0, 0, 3, 0, 0, 24, 7, 127, 255] [] rfl rfl rfl rfl ?_ ?_
    · simp only [AllP]
      and_intros <;> first | trivial | omega
    refine G.ret (endK.ret rfl ?_)
    rw [hred, ← hg]
    have t1 : ((x : Int).tdiv (p : Int)) = ((x / p : Nat) : Int) := rfl
    have t2 : ((y : Int).tdiv (p : Int)) = ((y / p : Nat) : Int) := rfl
    have d1 : x / p ≤ x := Nat.div_le_self _ _
    have d2 : y / p ≤ y := Nat.div_le_self _ _
    rw [t1, t2]
    generalize x / p = u at d1 ⊢
    generalize y / p = v at d2 ⊢
    rw [wrapA (by omega), wrapA (by omega)]
  have h5 := of_decide_eq_true h5
  refine G.skip ?_
  refine G.block ?_
  refine G.regD tfine hmix [0, 0, 0, 6, 3, 31] [] rfl rfl rfl rfl ?_ ?_
  · simp only [AllP]
    and_intros <;> first | trivial | omega
  have hlt : p % q < q := Nat.mod_lt _ (by omega)
  have tm : ((p : Int).tmod (q : Int)) = ((p % q : Nat) : Int) := rfl
  rw [tm]
  refine ⟨(q, p % q), ⟨?_, hq, by dsimp only; omega⟩, hlt, St.le_of rfl trivial ⟨rfl, rfl, rfl, rfl, trivial⟩⟩
  dsimp only
  rw [Nat.gcd_comm, ← Nat.gcd_rec, Nat.gcd_comm, hg]
end Go.Proofs.Ytmdgaifonpgojaa
/- Chapter 35: what the package and the reference answer. -/
set_option linter.unusedVariables false
set_option linter.unusedSimpArgs false
set_option maxRecDepth 8000
set_option maxHeartbeats 1000000
namespace Go.Proofs.Ytmdgaifonpgojaa
open Go.Sx Go.RowKit
def okB (id day al ma fa fm : Int) (l : List Cut) : Bool := refCheckE id day al ma fa fm l != 0
theorem okB_run {id day al ma fa fm : Int} {l : List Cut} (h : okB id day al ma fa fm l = false) : OkRun id day al ma fa fm l := okRun_of (by simpa [okB] using h)
theorem checkR_any (id day al ma fa fm : Int) (A : Option Addr) (c : Nat) (l : List Cut) (w : World) (hl : RdRow w A l.length 3 (elC l)) (hm : l.length ≤ 17) : Calls Try.prog 23 #[.agg #[I id, I day, I al, I ma, I fa, I fm, .slice A l.length c]] w fun e w' => e = .returned (I (refCheckE id day al ma fa fm l)) ∧ Below w.heap.size w w' := by
  rw [← check_eq]
  exact check_any id day al ma fa fm A c l w hl hm
def sumM (id day al ma fa fm : Int) (l : List Cut) (kd : Int) : Int × Int × Int := if okB id day al ma fa fm l = true then (0, 0, 1) else if (decide (kd < 1) || decide (kd > 4)) = true then (0, 0, 2) else ((kf l kd.toNat).1, (kf l kd.toNat).2, 0)
def balM (id day al ma fa fm : Int) (l : List Cut) : Int × Int × Int := if okB id day al ma fa fm l = true then (0, 0, 1) else (al + fa - (psum l (kindB 0)).1, ma + fm - (psum l (kindB 0)).2, 0)
def feiM (id day al ma fa fm : Int) (l : List Cut) : Int × Int × Int := if okB id day al ma fa fm l = true then (0, 0, 1) else ((kf l 1).1 + (kf l 3).1, (kf l 1).2 + (kf l 3).2, 0)
def yieM (id day al ma fa fm : Int) (l : List Cut) : Int × Int × Int := if okB id day al ma fa fm l = true then (0, 0, 1) else red2 (kf l 2).1 (al + fa)
def cloM (id day al ma fa fm : Int) (l : List Cut) (to : Int) : Bool × Int := if okB id day al ma fa fm l = true then (false, 1) else if (decide (to < 0) || decide (to > 1000000)) = true then (false, 2) else
  (decide ((al + fa - (psum l (kindB 0)).1).natAbs * 1000000 ≤ (al + fa).toNat * to.toNat) && decide ((ma + fm - (psum l (kindB 0)).2).natAbs * 1000000 ≤ (ma + fm).toNat * to.toNat), 0)
theorem kindB_pos {kd : Int} (h : kd ≠ 0) : kindB kd = qk kd := by
  funext x
  have : (kd == 0) = false := by simpa using h
  simp only [kindB, this, Bool.false_or, qk]
theorem kf_rsum {l : List Cut} (hl : inL l) (hn : l.length ≤ 17) {kd : Int} (h : 1 ≤ kd) : rsum l kd = kf l kd.toNat := by
  rw [rsum_eq hl hn, kindB_pos (by omega), kf, Int.toNat_of_nonneg (by omega)]
theorem kf_bound {l : List Cut} (hl : inL l) (hn : l.length ≤ 17) (j : Nat) : (0 ≤ (kf l j).1 ∧ (kf l j).1 ≤ 17 * 10737418240000) ∧ (0 ≤ (kf l j).2 ∧ (kf l j).2 ≤ 17 * 128849018880000) := psum_bound hl hn _
theorem plus_le {l : List Cut} (hl : inL l) (hn : l.length ≤ 17) (q r : Cut → Bool) (h : ∀ x, q x = true → r x = true) (k : Nat) (hk : k ≤ l.length) : (psum (l.take k) q).1 ≤ (psum (l.take k) r).1 := by
  induction k with
  | zero => exact Int.le_refl _
  | succ k ih =>
    have ih := ih (by omega)
    have hi := hl k (by omega)
    unfold inR at hi
    rw [psum_succ l q k (by omega), psum_succ l r k (by omega)]
    generalize psum (l.take k) q = s at ih ⊢
    generalize psum (l.take k) r = u at ih ⊢
    unfold plus
    by_cases h1 : q (l.getD k cut0) = true
    · rw [if_pos h1, if_pos (h _ h1)]
      simp only
      omega
    · rw [if_neg h1]
      split
      · simp only
        omega
      · exact ih
theorem yield_amts {id day al ma fa fm : Int} {l : List Cut} (ok : OkRun id day al ma fa fm l) (hm : l.length ≤ 17) : amtB (kf l 2).1 = true ∧ amtB (al + fa) = true := by
  have l2 := ok.lim2
  have l1 := ok.lim1
  rw [rsum_eq ok.inl hm] at l1
  have b := kf_bound ok.inl hm 2
  have le := plus_le ok.inl hm (qk 2) (kindB 0) (fun x _ => rfl) l.length (Nat.le_refl _)
  rw [List.take_length] at le
  unfold inR at l1 l2
  have le : (kf l 2).1 ≤ (psum l (kindB 0)).1 := le
  constructor
  · simp [amtB]; omega
  · simp [amtB]; omega
theorem abs_max {x : Int} (h : -4611686018427387904 < x ∧ x < 4611686018427387904) : ((x.natAbs : Nat) : Int) = if IntKind.i64.wrap (0 - x) > x then IntKind.i64.wrap (0 - x) else x := by
  rw [wrapA (by omega)]
  split <;> omega
theorem runSum_any (id day al ma fa fm : Int) (A : Option Addr) (c : Nat) (l : List Cut) (kd : Int) (w : World) (hl : RdRow w A l.length 3 (elC l)) (hm : l.length ≤ 17) : Calls Try.prog 19 #[.agg #[I id, I day, I al, I ma, I fa, I fm, .slice A l.length c], I kd] w fun e w' => e = .returned (.tuple #[I (sumM id day al ma fa fm l kd).1, I (sumM id day al ma fa fm l kd).2.1, I (sumM id day al ma fa fm l kd).2.2]) ∧ Below w.heap.size w w' := by
  refine enterPlain tfine Try.func19 rfl 27 Try.ntmps19 [.agg [.k (I id), .k (I day), .k (I al), .k (I ma), .k (I fa), .k (I fm), .inp 1000 A l.length c], .c (.k (I kd))] [⟨1000, A, 3, l.length, elC l⟩] rfl rfl ⟨hl, trivial⟩ ⟨⟨trivial, trivial, trivial, trivial, trivial, trivial, .inl ⟨rfl, rfl, rfl⟩, trivial⟩, trivial, trivial⟩ ?_
  refine G.seqR tfine rfl trivial ?_
  refine G.seq (G.block ?_)
  refine G.seqC tfine rfl trivial ?_
  refine GO.callPlain (v := I (refCheckE id day al ma fa fm l)) rfl rfl rfl rfl (fun args w => Try.call23 args w) (fun ρ w hs hok => checkR_any id day al ma fa fm A c l w (hs.row (cap := c) rfl (hok _ List.mem_cons_self _ (List.mem_cons_of_mem _ (List.mem_cons_of_mem _ (List.mem_cons_of_mem _ (List.mem_cons_of_mem _ (List.mem_cons_of_mem _ (List.mem_cons_of_mem _ List.mem_cons_self)))))))) hm) ?_
  refine GO.fin tfine rfl trivial ?_
  refine G.cond (b := okB id day al ma fa fm l) rfl (fun h1 => ?_) (fun h1 => ?_)
  · refine G.seqR tfine rfl trivial ?_
    refine G.ret (endK.ret rfl ?_)
    rw [sumM, if_pos h1]
  have ok := okB_run h1
  have hi := ok.inl
  refine G.seqR tfine rfl ?_ ?_
  · simp [AllP, condB]
  refine G.cond (b := (decide (kd < 1) || decide (kd > 4))) rfl (fun h2 => ?_) (fun h2 => ?_)
  · refine G.seqR tfine rfl trivial ?_
    refine G.ret (endK.ret rfl ?_)
    rw [sumM, if_neg (fne h1), if_pos h2]
  refine G.skip ?_
  have hk : 1 ≤ kd ∧ kd ≤ 4 := by simp at h2; omega
  have hs : sumM id day al ma fa fm l kd = ((kf l kd.toNat).1, (kf l kd.toNat).2, 0) := by rw [sumM, if_neg (fne h1), if_neg (fne h2)]
  rw [hs]
  refine G.seqC tfine rfl trivial ?_
  refine GO.callPlain (v := .agg #[I (kf l 0).1, I (kf l 0).2, I (kf l 1).1, I (kf l 1).2, I (kf l 2).1, I (kf l 2).2, I (kf l 3).1, I (kf l 3).2, I (kf l 4).1, I (kf l 4).2]) rfl rfl rfl rfl (fun args w => Try.call36 args w) (fun ρ w hs hok => kinds_any id day al ma fa fm A c l w (hs.row (cap := c) rfl (hok _ List.mem_cons_self _ (List.mem_cons_of_mem _ (List.mem_cons_of_mem _ (List.mem_cons_of_mem _ (List.mem_cons_of_mem _ (List.mem_cons_of_mem _ (List.mem_cons_of_mem _ List.mem_cons_self)))))))) hm ok) ?_
  rcases (show kd = 1 ∨ kd = 2 ∨ kd = 3 ∨ kd = 4 by omega) with rfl | rfl | rfl | rfl
  all_goals
    refine GO.fin tfine rfl ?_ ?_
    · simp only [AllP]; and_intros <;> first | trivial | decide
    refine G.seqD tfine hmix [0, 1, 0, 4, 3, 31, 63] [] rfl rfl rfl rfl trivial ?_
    exact G.ret (endK.ret rfl rfl)
theorem refSum2_any (id day al ma fa fm : Int) (A : Option Addr) (c : Nat) (l : List Cut) (kd : Int) (w : World) (hl : RdRow w A l.length 3 (elC l)) (hm : l.length ≤ 17) : Calls Try.prog 20 #[.agg #[I id, I day, I al, I ma, I fa, I fm, .slice A l.length c], I kd] w fun e w' => e = .returned (.tuple #[I (sumM id day al ma fa fm l kd).1, I (sumM id day al ma fa fm l kd).2.1, I (sumM id day al ma fa fm l kd).2.2]) ∧ Below w.heap.size w w' := by
  refine enterPlain tfine Try.func20 rfl 26 Try.ntmps20 [.agg [.k (I id), .k (I day), .k (I al), .k (I ma), .k (I fa), .k (I fm), .inp 1000 A l.length c], .c (.k (I kd))] [⟨1000, A, 3, l.length, elC l⟩] rfl rfl ⟨hl, trivial⟩ ⟨⟨trivial, trivial, trivial, trivial, trivial, trivial, .inl ⟨rfl, rfl, rfl⟩, trivial⟩, trivial, trivial⟩ ?_
  refine G.seqR tfine rfl trivial ?_
  refine G.seq ?_
  refine G.seqC tfine rfl trivial ?_
  refine GO.callPlain (v := I (refCheckE id day al ma fa fm l)) rfl rfl rfl rfl (fun args w => Try.call24 args w) (fun ρ w hs hok => refCheck_any id day al ma fa fm A c l w (hs.row (cap := c) rfl (hok _ List.mem_cons_self _ (List.mem_cons_of_mem _ (List.mem_cons_of_mem _ (List.mem_cons_of_mem _ (List.mem_cons_of_mem _ (List.mem_cons_of_mem _ (List.mem_cons_of_mem _ List.mem_cons_self)))))))) hm) ?_
  refine GO.fin tfine rfl trivial ?_
  refine G.cond (b := okB id day al ma fa fm l) rfl (fun h1 => ?_) (fun h1 => ?_)
  · refine G.seqR tfine rfl trivial ?_
    refine G.ret (endK.ret rfl ?_)
    rw [sumM, if_pos h1]
  have ok := okB_run h1
  have hi := ok.inl
  refine G.skip (G.seq ?_)
  refine G.seqR tfine rfl ?_ ?_
  · simp [AllP, condB]
  refine G.cond (b := (decide (kd < 1) || decide (kd > 4))) rfl (fun h2 => ?_) (fun h2 => ?_)
  · refine G.seqR tfine rfl trivial ?_
    refine G.ret (endK.ret rfl ?_)
    rw [sumM, if_neg (fne h1), if_pos h2]
  refine G.skip ?_
  have hk : 1 ≤ kd ∧ kd ≤ 4 := by simp at h2; omega
  have hs : sumM id day al ma fa fm l kd = ((rsum l kd).1, (rsum l kd).2, 0) := by rw [sumM, if_neg (fne h1), if_neg (fne h2), kf_rsum hi hm hk.1]
  rw [hs]
  refine G.seqC tfine rfl trivial ?_
  refine GO.callPlain (v := .tuple #[I (rsum l kd).1, I (rsum l kd).2]) rfl rfl rfl rfl (fun args w => Try.call32 args w) (fun ρ w hs hok => refSum_any id day al ma fa fm kd A c l w (hs.row (cap := c) rfl (hok _ List.mem_cons_self _ (List.mem_cons_of_mem _ (List.mem_cons_of_mem _ (List.mem_cons_of_mem _ (List.mem_cons_of_mem _ (List.mem_cons_of_mem _ (List.mem_cons_of_mem _ List.mem_cons_self)))))))) hm) ?_
  refine GO.fin tfine rfl trivial ?_
  refine G.seqR tfine rfl trivial ?_
  exact G.ret (endK.ret rfl rfl)
theorem runBalance_any (id day al ma fa fm : Int) (A : Option Addr) (c : Nat) (l : List Cut) (w : World) (hl : RdRow w A l.length 3 (elC l)) (hm : l.length ≤ 17) : Calls Try.prog 12 #[.agg #[I id, I day, I al, I ma, I fa, I fm, .slice A l.length c]] w fun e w' => e = .returned (.tuple #[I (balM id day al ma fa fm l).1, I (balM id day al ma fa fm l).2.1, I (balM id day al ma fa fm l).2.2]) ∧ Below w.heap.size w w' := by
  refine enterPlain tfine Try.func12 rfl 19 Try.ntmps12 [.agg [.k (I id), .k (I day), .k (I al), .k (I ma), .k (I fa), .k (I fm), .inp 1000 A l.length c]] [⟨1000, A, 3, l.length, elC l⟩] rfl rfl ⟨hl, trivial⟩ ⟨⟨trivial, trivial, trivial, trivial, trivial, trivial, .inl ⟨rfl, rfl, rfl⟩, trivial⟩, trivial⟩ ?_
  refine G.seqR tfine rfl trivial ?_
  refine G.seq ?_
  refine G.seqC tfine rfl trivial ?_
  refine GO.callPlain (v := I (refCheckE id day al ma fa fm l)) rfl rfl rfl rfl (fun args w => Try.call23 args w) (fun ρ w hs hok => checkR_any id day al ma fa fm A c l w (hs.row (cap := c) rfl (hok _ List.mem_cons_self _ (List.mem_cons_of_mem _ (List.mem_cons_of_mem _ (List.mem_cons_of_mem _ (List.mem_cons_of_mem _ (List.mem_cons_of_mem _ (List.mem_cons_of_mem _ List.mem_cons_self)))))))) hm) ?_
  refine GO.fin tfine rfl trivial ?_
  refine G.cond (b := okB id day al ma fa fm l) rfl (fun h1 => ?_) (fun h1 => ?_)
  · refine G.seqR tfine rfl trivial ?_
    refine G.ret (endK.ret rfl ?_)
    rw [balM, if_pos h1]
  have ok := okB_run h1
  have hi := ok.inl
  refine G.skip ?_
  have hs : balM id day al ma fa fm l = (al + fa - (psum l (kindB 0)).1, ma + fm - (psum l (kindB 0)).2, 0) := by rw [balM, if_neg (fne h1)]
  rw [hs]
  refine G.seqC tfine rfl trivial ?_
  refine GO.callPlain (v := .tuple #[.agg #[I (al + fa), I (ma + fm)], .agg #[I (al + fa - (psum l (kindB 0)).1), I (ma + fm - (psum l (kindB 0)).2)]]) rfl rfl rfl rfl (fun args w => Try.call30 args w) (fun ρ w hs hok => balance_any id day al ma fa fm A c l w (hs.row (cap := c) rfl (hok _ List.mem_cons_self _ (List.mem_cons_of_mem _ (List.mem_cons_of_mem _ (List.mem_cons_of_mem _ (List.mem_cons_of_mem _ (List.mem_cons_of_mem _ (List.mem_cons_of_mem _ List.mem_cons_self)))))))) hm ok) ?_
  refine GO.fin tfine rfl trivial ?_
  refine G.seqD tfine hmix [0, 1, 0, 4, 3, 31, 63] [] rfl rfl rfl rfl trivial ?_
  exact G.ret (endK.ret rfl rfl)
theorem refBalance_any (id day al ma fa fm : Int) (A : Option Addr) (c : Nat) (l : List Cut) (w : World) (hl : RdRow w A l.length 3 (elC l)) (hm : l.length ≤ 17) : Calls Try.prog 14 #[.agg #[I id, I day, I al, I ma, I fa, I fm, .slice A l.length c]] w fun e w' => e = .returned (.tuple #[I (balM id day al ma fa fm l).1, I (balM id day al ma fa fm l).2.1, I (balM id day al ma fa fm l).2.2]) ∧ Below w.heap.size w w' := by
  refine enterPlain tfine Try.func14 rfl 29 Try.ntmps14 [.agg [.k (I id), .k (I day), .k (I al), .k (I ma), .k (I fa), .k (I fm), .inp 1000 A l.length c]] [⟨1000, A, 3, l.length, elC l⟩] rfl rfl ⟨hl, trivial⟩ ⟨⟨trivial, trivial, trivial, trivial, trivial, trivial, .inl ⟨rfl, rfl, rfl⟩, trivial⟩, trivial⟩ ?_
  refine G.seqR tfine rfl trivial ?_
  refine G.seq ?_
  refine G.seqC tfine rfl trivial ?_
  refine GO.callPlain (v := I (refCheckE id day al ma fa fm l)) rfl rfl rfl rfl (fun args w => Try.call24 args w) (fun ρ w hs hok => refCheck_any id day al ma fa fm A c l w (hs.row (cap := c) rfl (hok _ List.mem_cons_self _ (List.mem_cons_of_mem _ (List.mem_cons_of_mem _ (List.mem_cons_of_mem _ (List.mem_cons_of_mem _ (List.mem_cons_of_mem _ (List.mem_cons_of_mem _ List.mem_cons_self)))))))) hm) ?_
  refine GO.fin tfine rfl trivial ?_
  refine G.cond (b := okB id day al ma fa fm l) rfl (fun h1 => ?_) (fun h1 => ?_)
  · refine G.seqR tfine rfl trivial ?_
    refine G.ret (endK.ret rfl ?_)
    rw [balM, if_pos h1]
  have ok := okB_run h1
  have hi := ok.inl
  refine G.skip ?_
  have hs : balM id day al ma fa fm l = (al + fa - (rsum l 0).1, ma + fm - (rsum l 0).2, 0) := by rw [balM, if_neg (fne h1), rsum_eq hi hm]
  have l2 := ok.lim2
  have bb := psum_bound hi hm (kindB 0)
  rw [← rsum_eq hi hm] at bb
  unfold inR at l2
  rw [hs]
  refine G.seqC tfine rfl trivial ?_
  refine GO.callPlain (v := .tuple #[I (rsum l 0).1, I (rsum l 0).2]) rfl rfl rfl rfl (fun args w => Try.call32 args w) (fun ρ w hs hok => refSum_any id day al ma fa fm 0 A c l w (hs.row (cap := c) rfl (hok _ List.mem_cons_self _ (List.mem_cons_of_mem _ (List.mem_cons_of_mem _ (List.mem_cons_of_mem _ (List.mem_cons_of_mem _ (List.mem_cons_of_mem _ (List.mem_cons_of_mem _ List.mem_cons_self)))))))) hm) ?_
  refine GO.fin tfine rfl trivial ?_
  refine G.seqD tfine hmix [0, 1, 0, 4, 15, 0, 63, 0, 128, 0, 512, 1920, 0, 8064, 127, 32767, 65535] [] rfl rfl rfl rfl trivial ?_
  refine G.ret (endK.ret rfl ?_)
  rw [wrapA (x := al + fa) (by omega), wrapA (x := ma + fm) (by omega), wrapA (by omega), wrapA (by omega)]
theorem runFeints_any (id day al ma fa fm : Int) (A : Option Addr) (c : Nat) (l : List Cut) (w : World) (hl : RdRow w A l.length 3 (elC l)) (hm : l.length ≤ 17) : Calls Try.prog 21 #[.agg #[I id, I day, I al, I ma, I fa, I fm, .slice A l.length c]] w fun e w' => e = .returned (.tuple #[I (feiM id day al ma fa fm l).1, I (feiM id day al ma fa fm l).2.1, I (feiM id day al ma fa fm l).2.2]) ∧ Below w.heap.size w w' := by
  refine enterPlain tfine Try.func21 rfl 22 Try.ntmps21 [.agg [.k (I id), .k (I day), .k (I al), .k (I ma), .k (I fa), .k (I fm), .inp 1000 A l.length c]] [⟨1000, A, 3, l.length, elC l⟩] rfl rfl ⟨hl, trivial⟩ ⟨⟨trivial, trivial, trivial, trivial, trivial, trivial, .inl ⟨rfl, rfl, rfl⟩, trivial⟩, trivial⟩ ?_
  refine G.seqR tfine rfl trivial ?_
  refine G.seq ?_
  refine G.seqC tfine rfl trivial ?_
  refine GO.callPlain (v := I (refCheckE id day al ma fa fm l)) rfl rfl rfl rfl (fun args w => Try.call23 args w) (fun ρ w hs hok => checkR_any id day al ma fa fm A c l w (hs.row (cap := c) rfl (hok _ List.mem_cons_self _ (List.mem_cons_of_mem _ (List.mem_cons_of_mem _ (List.mem_cons_of_mem _ (List.mem_cons_of_mem _ (List.mem_cons_of_mem _ (List.mem_cons_of_mem _ List.mem_cons_self)))))))) hm) ?_
  refine GO.fin tfine rfl trivial ?_
  refine G.cond (b := okB id day al ma fa fm l) rfl (fun h1 => ?_) (fun h1 => ?_)
  · refine G.seqR tfine rfl trivial ?_
    refine G.ret (endK.ret rfl ?_)
    rw [feiM, if_pos h1]
  have ok := okB_run h1
  have hi := ok.inl
  refine G.skip ?_
  have hs : feiM id day al ma fa fm l = ((kf l 1).1 + (kf l 3).1, (kf l 1).2 + (kf l 3).2, 0) := by rw [feiM, if_neg (fne h1)]
  have b1 := kf_bound hi hm 1
  have b3 := kf_bound hi hm 3
  have e : sumF [kf l 1, kf l 3] = ((kf l 1).1 + (kf l 3).1, (kf l 1).2 + (kf l 3).2) := by
    show (IntKind.i64.wrap (IntKind.i64.wrap (0 + (kf l 1).1) + (kf l 3).1), IntKind.i64.wrap (IntKind.i64.wrap (0 + (kf l 1).2) + (kf l 3).2)) = _
    rw [wrapA (x := 0 + (kf l 1).1) (by omega), wrapA (x := 0 + (kf l 1).2) (by omega), Int.zero_add, Int.zero_add, wrapA (by omega), wrapA (by omega)]
  rw [hs]
  refine G.seqC tfine rfl trivial ?_
  refine GO.callPlain (v := .agg #[I (kf l 0).1, I (kf l 0).2, I (kf l 1).1, I (kf l 1).2, I (kf l 2).1, I (kf l 2).2, I (kf l 3).1, I (kf l 3).2, I (kf l 4).1, I (kf l 4).2]) rfl rfl rfl rfl (fun args w => Try.call36 args w) (fun ρ w hs hok => kinds_any id day al ma fa fm A c l w (hs.row (cap := c) rfl (hok _ List.mem_cons_self _ (List.mem_cons_of_mem _ (List.mem_cons_of_mem _ (List.mem_cons_of_mem _ (List.mem_cons_of_mem _ (List.mem_cons_of_mem _ (List.mem_cons_of_mem _ List.mem_cons_self)))))))) hm ok) ?_
  refine GO.fin tfine rfl trivial ?_
  refine G.seqC tfine rfl ?_ ?_
  · simp only [AllP]; and_intros <;> first | trivial | decide
  refine GO.callPlain (v := .agg #[I ((kf l 1).1 + (kf l 3).1), I ((kf l 1).2 + (kf l 3).2)]) rfl rfl rfl rfl (fun args w => Try.call38 args w) (fun ρ w hs hok => ?_) ?_
  · have := sum_any _ 2 2 [kf l 1, kf l 3] w rfl ((hs.rdVar (x := 16) (sz := 2) (vs := [I (kf l 1).1, I (kf l 1).2, I (kf l 3).1, I (kf l 3).2]) rfl 0 2 (by simp)).congr fun i hi => ?_) (by omega)
    · rw [e] at this
      exact this
    · rcases (show i = 0 ∨ i = 1 by omega) with rfl | rfl <;> rfl
  refine GO.fin tfine rfl trivial ?_
  refine G.seqD tfine hmix [0, 1, 0, 4, 3, 31, 63] [] rfl rfl rfl rfl trivial ?_
  exact G.ret (endK.ret rfl rfl)
theorem refFeints_any (id day al ma fa fm : Int) (A : Option Addr) (c : Nat) (l : List Cut) (w : World) (hl : RdRow w A l.length 3 (elC l)) (hm : l.length ≤ 17) : Calls Try.prog 22 #[.agg #[I id, I day, I al, I ma, I fa, I fm, .slice A l.length c]] w fun e w' => e = .returned (.tuple #[I (feiM id day al ma fa fm l).1, I (feiM id day al ma fa fm l).2.1, I (feiM id day al ma fa fm l).2.2]) ∧ Below w.heap.size w w' := by
  refine enterPlain tfine Try.func22 rfl 28 Try.ntmps22 [.agg [.k (I id), .k (I day), .k (I al), .k (I ma), .k (I fa), .k (I fm), .inp 1000 A l.length c]] [⟨1000, A, 3, l.length, elC l⟩] rfl rfl ⟨hl, trivial⟩ ⟨⟨trivial, trivial, trivial, trivial, trivial, trivial, .inl ⟨rfl, rfl, rfl⟩, trivial⟩, trivial⟩ ?_
  refine G.seqR tfine rfl trivial ?_
  refine G.seq ?_
  refine G.seqC tfine rfl trivial ?_
  refine GO.callPlain (v := I (refCheckE id day al ma fa fm l)) rfl rfl rfl rfl (fun args w => Try.call24 args w) (fun ρ w hs hok => refCheck_any id day al ma fa fm A c l w (hs.row (cap := c) rfl (hok _ List.mem_cons_self _ (List.mem_cons_of_mem _ (List.mem_cons_of_mem _ (List.mem_cons_of_mem _ (List.mem_cons_of_mem _ (List.mem_cons_of_mem _ (List.mem_cons_of_mem _ List.mem_cons_self)))))))) hm) ?_
  refine GO.fin tfine rfl trivial ?_
  refine G.cond (b := okB id day al ma fa fm l) rfl (fun h1 => ?_) (fun h1 => ?_)
  · refine G.seqR tfine rfl trivial ?_
    refine G.ret (endK.ret rfl ?_)
    rw [feiM, if_pos h1]
  have ok := okB_run h1
  have hi := ok.inl
  refine G.skip ?_
  have k1 := kf_rsum hi hm (kd := 1) (by decide)
  have k3 := kf_rsum hi hm (kd := 3) (by decide)
  have hs : feiM id day al ma fa fm l = ((rsum l 1).1 + (rsum l 3).1, (rsum l 1).2 + (rsum l 3).2, 0) := by rw [feiM, if_neg (fne h1), k1, k3]; rfl
  have b1 := kf_bound hi hm 1
  have b3 := kf_bound hi hm 3
  change rsum l 1 = kf l 1 at k1
  change rsum l 3 = kf l 3 at k3
  rw [← k1] at b1
  rw [← k3] at b3
  rw [hs]
  refine G.seqC tfine rfl trivial ?_
  refine GO.callPlain (v := .tuple #[I (rsum l 1).1, I (rsum l 1).2]) rfl rfl rfl rfl (fun args w => Try.call32 args w) (fun ρ w hs hok => refSum_any id day al ma fa fm 1 A c l w (hs.row (cap := c) rfl (hok _ List.mem_cons_self _ (List.mem_cons_of_mem _ (List.mem_cons_of_mem _ (List.mem_cons_of_mem _ (List.mem_cons_of_mem _ (List.mem_cons_of_mem _ (List.mem_cons_of_mem _ List.mem_cons_self)))))))) hm) ?_
  refine GO.fin tfine rfl trivial ?_
  refine G.seqC tfine rfl trivial ?_
  refine GO.callPlain (v := .tuple #[I (rsum l 3).1, I (rsum l 3).2]) rfl rfl rfl rfl (fun args w => Try.call32 args w) (fun ρ w hs hok => refSum_any id day al ma fa fm 3 A c l w (hs.row (cap := c) rfl (hok _ List.mem_cons_self _ (List.mem_cons_of_mem _ (List.mem_cons_of_mem _ (List.mem_cons_of_mem _ (List.mem_cons_of_mem _ (List.mem_cons_of_mem _ (List.mem_cons_of_mem _ List.mem_cons_self)))))))) hm) ?_
  refine GO.fin tfine rfl trivial ?_
  refine G.seqR tfine rfl trivial ?_
  refine G.ret (endK.ret rfl ?_)
  rw [wrapA (by omega), wrapA (by omega)]
theorem runYield_any (id day al ma fa fm : Int) (A : Option Addr) (c : Nat) (l : List Cut) (w : World) (hl : RdRow w A l.length 3 (elC l)) (hm : l.length ≤ 17) : Calls Try.prog 17 #[.agg #[I id, I day, I al, I ma, I fa, I fm, .slice A l.length c]] w fun e w' => e = .returned (.tuple #[I (yieM id day al ma fa fm l).1, I (yieM id day al ma fa fm l).2.1, I (yieM id day al ma fa fm l).2.2]) ∧ Below w.heap.size w w' := by
  refine enterPlain tfine Try.func17 rfl 28 Try.ntmps17 [.agg [.k (I id), .k (I day), .k (I al), .k (I ma), .k (I fa), .k (I fm), .inp 1000 A l.length c]] [⟨1000, A, 3, l.length, elC l⟩] rfl rfl ⟨hl, trivial⟩ ⟨⟨trivial, trivial, trivial, trivial, trivial, trivial, .inl ⟨rfl, rfl, rfl⟩, trivial⟩, trivial⟩ ?_
  refine G.seqR tfine rfl trivial ?_
  refine G.seq ?_
  refine G.seqC tfine rfl trivial ?_
  refine GO.callPlain (v := I (refCheckE id day al ma fa fm l)) rfl rfl rfl rfl (fun args w => Try.call23 args w) (fun ρ w hs hok => checkR_any id day al ma fa fm A c l w (hs.row (cap := c) rfl (hok _ List.mem_cons_self _ (List.mem_cons_of_mem _ (List.mem_cons_of_mem _ (List.mem_cons_of_mem _ (List.mem_cons_of_mem _ (List.mem_cons_of_mem _ (List.mem_cons_of_mem _ List.mem_cons_self)))))))) hm) ?_
  refine GO.fin tfine rfl trivial ?_
  refine G.cond (b := okB id day al ma fa fm l) rfl (fun h1 => ?_) (fun h1 => ?_)
  · refine G.seqR tfine rfl trivial ?_
    refine G.ret (endK.ret rfl ?_)
    rw [yieM, if_pos h1]
  have ok := okB_run h1
  have hi := ok.inl
  refine G.skip ?_
  have hs : yieM id day al ma fa fm l = red2 (kf l 2).1 (al + fa) := by rw [yieM, if_neg (fne h1)]
  rw [hs]
  refine G.seqC tfine rfl trivial ?_
  refine GO.callPlain (v := .tuple #[.agg #[I (al + fa), I (ma + fm)], .agg #[I (al + fa - (psum l (kindB 0)).1), I (ma + fm - (psum l (kindB 0)).2)]]) rfl rfl rfl rfl (fun args w => Try.call30 args w) (fun ρ w hs hok => balance_any id day al ma fa fm A c l w (hs.row (cap := c) rfl (hok _ List.mem_cons_self _ (List.mem_cons_of_mem _ (List.mem_cons_of_mem _ (List.mem_cons_of_mem _ (List.mem_cons_of_mem _ (List.mem_cons_of_mem _ (List.mem_cons_of_mem _ List.mem_cons_self)))))))) hm ok) ?_
  refine GO.fin tfine rfl trivial ?_
  refine G.seq (G.seqR tfine rfl trivial ?_)
  refine G.cond (b := (al + fa == 0)) rfl (fun h2 => ?_) (fun h2 => ?_)
  · refine G.seqR tfine rfl trivial ?_
    refine G.ret (endK.ret rfl ?_)
    have ha : amtB (kf l 2).1 = true ∧ amtB (al + fa) = true := yield_amts ok hm
    rw [red2, if_neg (by simp [ha.1, ha.2]), if_pos h2]
  refine G.skip ?_
  refine G.seqDraw hmix [0, 1, 3, 7, 0, 16, 63, 127, 127, 127, 1023, 2047, 4095] [] rfl rfl rfl ?_
  refine GD.more tfine 0 rfl rfl trivial ?_
  refine GD.call (v := .agg #[I (kf l 0).1, I (kf l 0).2, I (kf l 1).1, I (kf l 1).2, I (kf l 2).1, I (kf l 2).2, I (kf l 3).1, I (kf l 3).2, I (kf l 4).1, I (kf l 4).2]) 1 rfl rfl rfl rfl rfl (fun args w => Try.call36 args w) (fun m hle ρ w hs hok => kinds_any id day al ma fa fm A c l w (hs.row (cap := c) (LeM.at hle rfl) (hok _ List.mem_cons_self _ (List.mem_cons_of_mem _ (List.mem_cons_of_mem _ (List.mem_cons_of_mem _ (List.mem_cons_of_mem _ (List.mem_cons_of_mem _ (List.mem_cons_of_mem _ List.mem_cons_self)))))))) hm ok) ?_
  refine GD.more tfine 2 rfl rfl ?_ ?_
  · simp only [AllP]; and_intros <;> first | trivial | decide
  refine GD.call (v := .tuple #[I (red2 (kf l 2).1 (al + fa)).1, I (red2 (kf l 2).1 (al + fa)).2.1, I (red2 (kf l 2).1 (al + fa)).2.2]) 6 rfl rfl rfl rfl rfl (fun args w => Try.call35 args w) (fun m hle ρ w hs hok => reduce_any _ _ w) ?_
  refine GD.fin tfine 7 rfl rfl trivial ?_
  exact G.ret (endK.ret rfl rfl)
theorem refYield_any (id day al ma fa fm : Int) (A : Option Addr) (c : Nat) (l : List Cut) (w : World) (hl : RdRow w A l.length 3 (elC l)) (hm : l.length ≤ 17) : Calls Try.prog 18 #[.agg #[I id, I day, I al, I ma, I fa, I fm, .slice A l.length c]] w fun e w' => e = .returned (.tuple #[I (yieM id day al ma fa fm l).1, I (yieM id day al ma fa fm l).2.1, I (yieM id day al ma fa fm l).2.2]) ∧ Below w.heap.size w w' := by
  refine enterPlain tfine Try.func18 rfl 25 Try.ntmps18 [.agg [.k (I id), .k (I day), .k (I al), .k (I ma), .k (I fa), .k (I fm), .inp 1000 A l.length c]] [⟨1000, A, 3, l.length, elC l⟩] rfl rfl ⟨hl, trivial⟩ ⟨⟨trivial, trivial, trivial, trivial, trivial, trivial, .inl ⟨rfl, rfl, rfl⟩, trivial⟩, trivial⟩ ?_
  refine G.seqR tfine rfl trivial ?_
  refine G.seq ?_
  refine G.seqC tfine rfl trivial ?_
  refine GO.callPlain (v := I (refCheckE id day al ma fa fm l)) rfl rfl rfl rfl (fun args w => Try.call24 args w) (fun ρ w hs hok => refCheck_any id day al ma fa fm A c l w (hs.row (cap := c) rfl (hok _ List.mem_cons_self _ (List.mem_cons_of_mem _ (List.mem_cons_of_mem _ (List.mem_cons_of_mem _ (List.mem_cons_of_mem _ (List.mem_cons_of_mem _ (List.mem_cons_of_mem _ List.mem_cons_self)))))))) hm) ?_
  refine GO.fin tfine rfl trivial ?_
  refine G.cond (b := okB id day al ma fa fm l) rfl (fun h1 => ?_) (fun h1 => ?_)
  · refine G.seqR tfine rfl trivial ?_
    refine G.ret (endK.ret rfl ?_)
    rw [yieM, if_pos h1]
  have ok := okB_run h1
  have hi := ok.inl
  refine G.skip ?_
  have k2 : rsum l 2 = kf l 2 := kf_rsum hi hm (kd := 2) (by decide)
  have l2 := ok.lim2
  unfold inR at l2
  have hs : yieM id day al ma fa fm l = red2 (rsum l 2).1 (al + fa) := by rw [yieM, if_neg (fne h1), k2]
  rw [hs]
  refine G.seqC tfine rfl trivial ?_
  refine GO.callPlain (v := .tuple #[I (rsum l 2).1, I (rsum l 2).2]) rfl rfl rfl rfl (fun args w => Try.call32 args w) (fun ρ w hs hok => refSum_any id day al ma fa fm 2 A c l w (hs.row (cap := c) rfl (hok _ List.mem_cons_self _ (List.mem_cons_of_mem _ (List.mem_cons_of_mem _ (List.mem_cons_of_mem _ (List.mem_cons_of_mem _ (List.mem_cons_of_mem _ (List.mem_cons_of_mem _ List.mem_cons_self)))))))) hm) ?_
  refine GO.fin tfine rfl trivial ?_
  refine G.seqC tfine rfl trivial ?_
  rw [wrapA (by omega)]
  refine GO.callPlain (v := .tuple #[I (red2 (rsum l 2).1 (al + fa)).1, I (red2 (rsum l 2).1 (al + fa)).2.1, I (red2 (rsum l 2).1 (al + fa)).2.2]) rfl rfl rfl rfl (fun args w => Try.call37 args w) (fun ρ w hs hok => refReduce_any _ _ w) ?_
  refine GO.fin tfine rfl trivial ?_
  exact G.ret (endK.ret rfl rfl)
theorem runCloses_any (id day al ma fa fm : Int) (A : Option Addr) (c : Nat) (l : List Cut) (to : Int) (w : World) (hl : RdRow w A l.length 3 (elC l)) (hm : l.length ≤ 17) : Calls Try.prog 15 #[.agg #[I id, I day, I al, I ma, I fa, I fm, .slice A l.length c], I to] w fun e w' => e = .returned (.tuple #[.bool (cloM id day al ma fa fm l to).1, I (cloM id day al ma fa fm l to).2]) ∧ Below w.heap.size w w' := by
  refine enterPlain tfine Try.func15 rfl 46 Try.ntmps15 [.agg [.k (I id), .k (I day), .k (I al), .k (I ma), .k (I fa), .k (I fm), .inp 1000 A l.length c], .c (.k (I to))] [⟨1000, A, 3, l.length, elC l⟩] rfl rfl ⟨hl, trivial⟩ ⟨⟨trivial, trivial, trivial, trivial, trivial, trivial, .inl ⟨rfl, rfl, rfl⟩, trivial⟩, trivial, trivial⟩ ?_
  refine G.seqR tfine rfl trivial ?_
  refine G.seq (G.block ?_)
  refine G.seqC tfine rfl trivial ?_
  refine GO.callPlain (v := I (refCheckE id day al ma fa fm l)) rfl rfl rfl rfl (fun args w => Try.call23 args w) (fun ρ w hs hok => checkR_any id day al ma fa fm A c l w (hs.row (cap := c) rfl (hok _ List.mem_cons_self _ (List.mem_cons_of_mem _ (List.mem_cons_of_mem _ (List.mem_cons_of_mem _ (List.mem_cons_of_mem _ (List.mem_cons_of_mem _ (List.mem_cons_of_mem _ List.mem_cons_self)))))))) hm) ?_
  refine GO.fin tfine rfl trivial ?_
  refine G.cond (b := okB id day al ma fa fm l) rfl (fun h1 => ?_) (fun h1 => ?_)
  · refine G.seqR tfine rfl trivial ?_
    refine G.ret (endK.ret rfl ?_)
    rw [cloM, if_pos h1]
  have ok := okB_run h1
  have hi := ok.inl
  refine G.seqR tfine rfl ?_ ?_
  · simp [AllP, condB]
  refine G.cond (b := (decide (to < 0) || decide (to > 1000000))) rfl (fun h2 => ?_) (fun h2 => ?_)
  · refine G.seqR tfine rfl trivial ?_
    refine G.ret (endK.ret rfl ?_)
    rw [cloM, if_neg (fne h1), if_pos h2]
  refine G.skip ?_
  have hk : 0 ≤ to ∧ to ≤ 1000000 := by simp at h2; omega
  have l2 := ok.lim2
  have bb := psum_bound hi hm (kindB 0)
  unfold inR at l2
  have hs : cloM id day al ma fa fm l to = (decide ((al + fa - (psum l (kindB 0)).1).natAbs * 1000000 ≤ (al + fa).toNat * to.toNat) && decide ((ma + fm - (psum l (kindB 0)).2).natAbs * 1000000 ≤ (ma + fm).toNat * to.toNat), 0) := by rw [cloM, if_neg (fne h1), if_neg (fne h2)]
  rw [hs]
  obtain ⟨d1, hd1⟩ : ∃ d, d = decide ((al + fa - (psum l (kindB 0)).1).natAbs * 1000000 ≤ (al + fa).toNat * to.toNat) := ⟨_, rfl⟩
  obtain ⟨d2, hd2⟩ : ∃ d, d = decide ((ma + fm - (psum l (kindB 0)).2).natAbs * 1000000 ≤ (ma + fm).toNat * to.toNat) := ⟨_, rfl⟩
  rw [← hd1, ← hd2]
  have et : (to.toNat : Int) = to := by omega
  refine G.seqC tfine rfl trivial ?_
  refine GO.callPlain (v := .tuple #[.agg #[I (al + fa), I (ma + fm)], .agg #[I (al + fa - (psum l (kindB 0)).1), I (ma + fm - (psum l (kindB 0)).2)]]) rfl rfl rfl rfl (fun args w => Try.call30 args w) (fun ρ w hs hok => balance_any id day al ma fa fm A c l w (hs.row (cap := c) rfl (hok _ List.mem_cons_self _ (List.mem_cons_of_mem _ (List.mem_cons_of_mem _ (List.mem_cons_of_mem _ (List.mem_cons_of_mem _ (List.mem_cons_of_mem _ (List.mem_cons_of_mem _ List.mem_cons_self)))))))) hm ok) ?_
  refine GO.fin tfine rfl trivial ?_
  refine G.seqC tfine rfl trivial ?_
  refine GO.callPlain (v := .bool d1) rfl rfl rfl rfl (fun args w => Try.call33 args w) (fun ρ w hs hok => ?_) ?_
  · have := most_any (al + fa - (psum l (kindB 0)).1).natAbs 1000000 (al + fa).toNat to.toNat (by omega) (by omega) (by omega) (by omega) w
    rw [et, show (((al + fa).toNat : Nat) : Int) = al + fa by omega, abs_max (by omega)] at this
    rw [show ((1000000 : Nat) : Int) = 1000000 from rfl] at this
    rw [hd1]
    exact this
  refine GO.more tfine rfl ?_ ?_
  · simp [AllP, condB]
  refine GO.callGuard (.bool d2) rfl rfl rfl (by first | exact trivial | exact ⟨fun h => h, trivial⟩ | exact ⟨fun h => h, fun h => h, trivial⟩ | exact ⟨fun h => h, fun h => h, fun h => h, trivial⟩) rfl rfl (fun args w => Try.call33 args w) rfl (fun _ m' hle ρ w hs hok => ?_) ?_
  · have := most_any (ma + fm - (psum l (kindB 0)).2).natAbs 1000000 (ma + fm).toNat to.toNat (by omega) (by omega) (by omega) (by omega) w
    rw [et, show (((ma + fm).toNat : Nat) : Int) = ma + fm by omega, abs_max (by omega)] at this
    rw [show ((1000000 : Nat) : Int) = 1000000 from rfl] at this
    rw [hd2]
    exact this
  refine GO.fin tfine rfl ?_ ?_
  · simp [AllP, condB]
  exact G.ret (endK.ret rfl rfl)
theorem refCloses_any (id day al ma fa fm : Int) (A : Option Addr) (c : Nat) (l : List Cut) (to : Int) (w : World) (hl : RdRow w A l.length 3 (elC l)) (hm : l.length ≤ 17) : Calls Try.prog 16 #[.agg #[I id, I day, I al, I ma, I fa, I fm, .slice A l.length c], I to] w fun e w' => e = .returned (.tuple #[.bool (cloM id day al ma fa fm l to).1, I (cloM id day al ma fa fm l to).2]) ∧ Below w.heap.size w w' := by
  refine enterPlain tfine Try.func16 rfl 42 Try.ntmps16 [.agg [.k (I id), .k (I day), .k (I al), .k (I ma), .k (I fa), .k (I fm), .inp 1000 A l.length c], .c (.k (I to))] [⟨1000, A, 3, l.length, elC l⟩] rfl rfl ⟨hl, trivial⟩ ⟨⟨trivial, trivial, trivial, trivial, trivial, trivial, .inl ⟨rfl, rfl, rfl⟩, trivial⟩, trivial, trivial⟩ ?_
  refine G.seqR tfine rfl trivial ?_
  refine G.seqC tfine rfl trivial ?_
  refine GO.callPlain (v := .tuple #[I (balM id day al ma fa fm l).1, I (balM id day al ma fa fm l).2.1, I (balM id day al ma fa fm l).2.2]) rfl rfl rfl rfl (fun args w => Try.call14 args w) (fun ρ w hs hok => refBalance_any id day al ma fa fm A c l w (hs.row (cap := c) rfl (hok _ List.mem_cons_self _ (List.mem_cons_of_mem _ (List.mem_cons_of_mem _ (List.mem_cons_of_mem _ (List.mem_cons_of_mem _ (List.mem_cons_of_mem _ (List.mem_cons_of_mem _ List.mem_cons_self)))))))) hm) ?_
  refine GO.fin tfine rfl trivial ?_
  refine G.seq (G.seqR tfine rfl trivial ?_)
  by_cases h1 : okB id day al ma fa fm l = true
  · have hb : balM id day al ma fa fm l = (0, 0, 1) := by rw [balM, if_pos h1]
    rw [hb]
    refine G.cond_true rfl ?_
    refine G.seqR tfine rfl trivial ?_
    refine G.ret (endK.ret rfl ?_)
    rw [cloM, if_pos h1]
  have h1 : okB id day al ma fa fm l = false := by simpa using h1
  have hb : balM id day al ma fa fm l = (al + fa - (psum l (kindB 0)).1, ma + fm - (psum l (kindB 0)).2, 0) := by rw [balM, if_neg (fne h1)]
  rw [hb]
  have ok := okB_run h1
  have hi := ok.inl
  refine G.cond_false rfl ?_
  refine G.skip (G.seq ?_)
  refine G.seqR tfine rfl ?_ ?_
  · simp [AllP, condB]
  refine G.cond (b := (decide (to < 0) || decide (to > 1000000))) rfl (fun h2 => ?_) (fun h2 => ?_)
  · refine G.seqR tfine rfl trivial ?_
    refine G.ret (endK.ret rfl ?_)
    rw [cloM, if_neg (fne h1), if_pos h2]
  refine G.skip ?_
  have hk : 0 ≤ to ∧ to ≤ 1000000 := by simp at h2; omega
  have l2 := ok.lim2
  have bb := psum_bound hi hm (kindB 0)
  unfold inR at l2
  have hs : cloM id day al ma fa fm l to = (decide ((al + fa - (psum l (kindB 0)).1).natAbs * 1000000 ≤ (al + fa).toNat * to.toNat) && decide ((ma + fm - (psum l (kindB 0)).2).natAbs * 1000000 ≤ (ma + fm).toNat * to.toNat), 0) := by rw [cloM, if_neg (fne h1), if_neg (fne h2)]
  rw [hs]
  obtain ⟨d1, hd1⟩ : ∃ d, d = decide ((al + fa - (psum l (kindB 0)).1).natAbs * 1000000 ≤ (al + fa).toNat * to.toNat) := ⟨_, rfl⟩
  obtain ⟨d2, hd2⟩ : ∃ d, d = decide ((ma + fm - (psum l (kindB 0)).2).natAbs * 1000000 ≤ (ma + fm).toNat * to.toNat) := ⟨_, rfl⟩
  rw [← hd1, ← hd2]
  have w1 : IntKind.i64.wrap (al + fa) = al + fa := wrapA (by omega)
  have w2 : IntKind.i64.wrap (ma + fm) = ma + fm := wrapA (by omega)
  refine G.seqC tfine rfl trivial ?_
  refine GO.callPlain (v := .bool d1) rfl rfl rfl rfl (fun args w => Try.call34 args w) (fun ρ w hs hok => ?_) ?_
  · have := within_any (al + fa - (psum l (kindB 0)).1) (al + fa) to (by omega) (by omega) (by omega) w
    show Calls Try.prog _ #[I (al + fa - (psum l (kindB 0)).1), I (IntKind.i64.wrap (al + fa)), I to] w _
    rw [w1]
    rw [hd1]
    exact this
  refine GO.more tfine rfl ?_ ?_
  · simp [AllP, condB]
  refine GO.callGuard (.bool d2) rfl rfl rfl (by first | exact trivial | exact ⟨fun h => h, trivial⟩ | exact ⟨fun h => h, fun h => h, trivial⟩ | exact ⟨fun h => h, fun h => h, fun h => h, trivial⟩) rfl rfl (fun args w => Try.call34 args w) rfl (fun _ m' hle ρ w hs hok => ?_) ?_
  · show Calls Try.prog _ #[I (ma + fm - (psum l (kindB 0)).2), I (IntKind.i64.wrap (ma + fm)), I to] w _
    rw [w2, hd2]
    exact within_any (ma + fm - (psum l (kindB 0)).2) (ma + fm) to (by omega) (by omega) (by omega) w
  refine GO.fin tfine rfl ?_ ?_
  · simp [AllP, condB]
  exact G.ret (endK.ret rfl rfl)
end Go.Proofs.Ytmdgaifonpgojaa
/- Chapter 35: the example, the walks of the laws. -/
set_option linter.unusedVariables false
set_option linter.unusedSimpArgs false
set_option maxRecDepth 8000
set_option maxHeartbeats 1000000
namespace Go.Proofs.Ytmdgaifonpgojaa
open Go.Sx Go.RowKit
def exL : List Cut := [⟨1, 50, 60⟩, ⟨2, 600, 900⟩, ⟨3, 200, 500⟩, ⟨4, 140, 7530⟩]
theorem example_any (w : World) : Calls Try.prog 29 #[] w fun e w' => ∃ A' c', e = .returned (rowIn (some ([I 1, I 5, I 1000, I 9000, I 0, I 0], [])) (.slice A' exL.length c')) ∧ RdNew w w' A' exL.length 3 (elC exL) ∧ Below w.heap.size w w' := by
  refine enterTabP tfine ([I 1, I 5, I 1000, I 9000, I 0, I 0], []) exL.length 3 (elC exL) Try.func29 rfl 7 Try.ntmps29 [] [] rfl rfl trivial trivial ?_
  refine G.seqR tfine rfl trivial ?_
  refine G.seqR tfine rfl trivial ?_
  refine G.ret (endTabP.ret rfl ⟨_, rfl, rfl, rfl, [I 1, I 50, I 60, I 2, I 600, I 900, I 3, I 200, I 500, I 4, I 140, I 7530], rfl, by decide, fun i hi => ?_⟩)
  match i, hi with
  | 0, _ => rfl
  | 1, _ => rfl
  | 2, _ => rfl
  | 3, _ => rfl
theorem ex_check : refCheckE 1 5 1000 9000 0 0 exL = 0 := by decide
theorem ex_bal : balM 1 5 1000 9000 0 0 exL = (10, 10, 0) := by decide
theorem ex_clo1 : cloM 1 5 1000 9000 0 0 exL 10000 = (true, 0) := by decide
theorem ex_clo2 : cloM 1 5 1000 9000 0 0 exL 9999 = (false, 0) := by decide
theorem ex_yie : yieM 1 5 1000 9000 0 0 exL = (3, 5, 0) := by decide
theorem ex_fei : feiM 1 5 1000 9000 0 0 exL = (250, 560, 0) := by decide
theorem awake_any (w : World) : Calls Try.prog 10 #[] w fun e w' => e = .returned (.bool true) ∧ Below w.heap.size w w' := by
  refine enterPlain tfine Try.func10 rfl 88 Try.ntmps10 [] [] rfl rfl trivial trivial ?_
  refine G.seqR tfine rfl trivial ?_
  refine G.seqC tfine rfl trivial ?_
  refine GO.callTabP ([I 1, I 5, I 1000, I 9000, I 0, I 0], []) rfl rfl rfl rfl rfl rfl rfl (fun args w => Try.call29 args w) (fun ρ w hs hok => example_any w) (fun A k => ?_)
  refine GO.callPlain (v := .tuple #[I 10, I 10, I 0]) rfl rfl rfl rfl (fun args w => Try.call12 args w) (fun ρ w hs hok => ?_) ?_
  · have := runBalance_any 1 5 1000 9000 0 0 A k exL  w (hs.row (cap := k) rfl (hok _ List.mem_cons_self _ (List.mem_cons_of_mem _ (List.mem_cons_of_mem _ (List.mem_cons_of_mem _ (List.mem_cons_of_mem _ (List.mem_cons_of_mem _ (List.mem_cons_of_mem _ List.mem_cons_self)))))))) (by decide)
    rw [ex_bal] at this
    exact this
  refine GO.fin tfine rfl trivial ?_
  refine G.seqC tfine rfl trivial ?_
  refine GO.callTabP ([I 1, I 5, I 1000, I 9000, I 0, I 0], []) rfl rfl rfl rfl rfl rfl rfl (fun args w => Try.call29 args w) (fun ρ w hs hok => example_any w) (fun A k => ?_)
  refine GO.callPlain (v := .tuple #[.bool true, I 0]) rfl rfl rfl rfl (fun args w => Try.call15 args w) (fun ρ w hs hok => ?_) ?_
  · have := runCloses_any 1 5 1000 9000 0 0 A k exL 10000 w (hs.row (cap := k) rfl (hok _ List.mem_cons_self _ (List.mem_cons_of_mem _ (List.mem_cons_of_mem _ (List.mem_cons_of_mem _ (List.mem_cons_of_mem _ (List.mem_cons_of_mem _ (List.mem_cons_of_mem _ List.mem_cons_self)))))))) (by decide)
    rw [ex_clo1] at this
    exact this
  refine GO.fin tfine rfl trivial ?_
  refine G.seqC tfine rfl trivial ?_
  refine GO.callTabP ([I 1, I 5, I 1000, I 9000, I 0, I 0], []) rfl rfl rfl rfl rfl rfl rfl (fun args w => Try.call29 args w) (fun ρ w hs hok => example_any w) (fun A k => ?_)
  refine GO.callPlain (v := .tuple #[.bool false, I 0]) rfl rfl rfl rfl (fun args w => Try.call15 args w) (fun ρ w hs hok => ?_) ?_
  · have := runCloses_any 1 5 1000 9000 0 0 A k exL 9999 w (hs.row (cap := k) rfl (hok _ List.mem_cons_self _ (List.mem_cons_of_mem _ (List.mem_cons_of_mem _ (List.mem_cons_of_mem _ (List.mem_cons_of_mem _ (List.mem_cons_of_mem _ (List.mem_cons_of_mem _ List.mem_cons_self)))))))) (by decide)
    rw [ex_clo2] at this
    exact this
  refine GO.fin tfine rfl trivial ?_
  refine G.seqC tfine rfl trivial ?_
  refine GO.callTabP ([I 1, I 5, I 1000, I 9000, I 0, I 0], []) rfl rfl rfl rfl rfl rfl rfl (fun args w => Try.call29 args w) (fun ρ w hs hok => example_any w) (fun A k => ?_)
  refine GO.callPlain (v := .tuple #[I 3, I 5, I 0]) rfl rfl rfl rfl (fun args w => Try.call17 args w) (fun ρ w hs hok => ?_) ?_
  · have := runYield_any 1 5 1000 9000 0 0 A k exL  w (hs.row (cap := k) rfl (hok _ List.mem_cons_self _ (List.mem_cons_of_mem _ (List.mem_cons_of_mem _ (List.mem_cons_of_mem _ (List.mem_cons_of_mem _ (List.mem_cons_of_mem _ (List.mem_cons_of_mem _ List.mem_cons_self)))))))) (by decide)
    rw [ex_yie] at this
    exact this
  refine GO.fin tfine rfl trivial ?_
  refine G.seqC tfine rfl trivial ?_
  refine GO.callTabP ([I 1, I 5, I 1000, I 9000, I 0, I 0], []) rfl rfl rfl rfl rfl rfl rfl (fun args w => Try.call29 args w) (fun ρ w hs hok => example_any w) (fun A k => ?_)
  refine GO.callPlain (v := .tuple #[I 250, I 560, I 0]) rfl rfl rfl rfl (fun args w => Try.call21 args w) (fun ρ w hs hok => ?_) ?_
  · have := runFeints_any 1 5 1000 9000 0 0 A k exL  w (hs.row (cap := k) rfl (hok _ List.mem_cons_self _ (List.mem_cons_of_mem _ (List.mem_cons_of_mem _ (List.mem_cons_of_mem _ (List.mem_cons_of_mem _ (List.mem_cons_of_mem _ (List.mem_cons_of_mem _ List.mem_cons_self)))))))) (by decide)
    rw [ex_fei] at this
    exact this
  refine GO.fin tfine rfl trivial ?_
  refine G.seqC tfine rfl ?_ ?_
  · simp [AllP, condB]
  refine GO.callTabG (some ([I 1, I 5, I 1000, I 9000, I 0, I 0], [])) (cb := true) rfl rfl rfl rfl rfl rfl rfl (by first | exact trivial | exact ⟨id, trivial⟩) rfl (fun args w => Try.call29 args w) (fun _ ρ w hs hok => example_any w) (fun A k => ?_)
  refine GO.callGuard (I 0) (cb := true) rfl rfl rfl (by first | exact trivial | exact ⟨id, trivial⟩ | exact ⟨id, id, trivial⟩) rfl rfl (fun args w => Try.call23 args w) rfl (fun _ m' hle ρ w hs hok => ?_) ?_
  · have := checkR_any 1 5 1000 9000 0 0 A k exL w (hs.rd (cap := k) (hle.at rfl) (hok _ List.mem_cons_self _ (List.mem_cons_of_mem _ (List.mem_cons_of_mem _ (List.mem_cons_of_mem _ (List.mem_cons_of_mem _ (List.mem_cons_of_mem _ (List.mem_cons_of_mem _ List.mem_cons_self))))))) (Nat.le_refl _)) (by decide)
    rw [ex_check] at this
    exact this
  refine GO.fin tfine rfl ?_ ?_
  · simp [AllP, condB]
  exact G.ret (endK.ret rfl rfl)
end Go.Proofs.Ytmdgaifonpgojaa
/- Chapter 35: the walks of four laws. -/
set_option linter.unusedVariables false
set_option linter.unusedSimpArgs false
set_option maxRecDepth 8000
set_option maxHeartbeats 1000000
namespace Go.Proofs.Ytmdgaifonpgojaa
open Go.Sx Go.RowKit
def spilelaw35_RunBalances (x0_0 : Int) (x0_1 : Int) (x0_2 : Int) (x0_3 : Int) (x0_4 : Int) (x0_5 : Int) (l0_6 : List Cut) (x1 : Int) : Bool := if (!(spileref35_Few x0_0 x0_1 x0_2 x0_3 x0_4 x0_5 l0_6)) = true then (true) else ((((((((((balM x0_0 x0_1 x0_2 x0_3 x0_4 x0_5 l0_6).1) == ((balM x0_0 x0_1 x0_2 x0_3 x0_4 x0_5 l0_6).1)) && (((balM x0_0 x0_1 x0_2 x0_3 x0_4 x0_5 l0_6).2.1) == ((balM x0_0 x0_1 x0_2 x0_3 x0_4 x0_5 l0_6).2.1))) && (((balM x0_0 x0_1 x0_2 x0_3 x0_4 x0_5 l0_6).2.2) == ((balM x0_0 x0_1 x0_2 x0_3 x0_4 x0_5 l0_6).2.2))) && (((cloM x0_0 x0_1 x0_2 x0_3 x0_4 x0_5 l0_6 x1).1) == ((cloM x0_0 x0_1 x0_2 x0_3 x0_4 x0_5 l0_6 x1).1))) && (((cloM x0_0 x0_1 x0_2 x0_3 x0_4 x0_5 l0_6 x1).2) == ((cloM x0_0 x0_1 x0_2 x0_3 x0_4 x0_5 l0_6 x1).2))) && (((yieM x0_0 x0_1 x0_2 x0_3 x0_4 x0_5 l0_6).1) == ((yieM x0_0 x0_1 x0_2 x0_3 x0_4 x0_5 l0_6).1))) && (((yieM x0_0 x0_1 x0_2 x0_3 x0_4 x0_5 l0_6).2.1) == ((yieM x0_0 x0_1 x0_2 x0_3 x0_4 x0_5 l0_6).2.1))) && (((yieM x0_0 x0_1 x0_2 x0_3 x0_4 x0_5 l0_6).2.2) == ((yieM x0_0 x0_1 x0_2 x0_3 x0_4 x0_5 l0_6).2.2)))
theorem spilelaw35_RunBalances_any (x0_0 : Int) (x0_1 : Int) (x0_2 : Int) (x0_3 : Int) (x0_4 : Int) (x0_5 : Int) (A0_6 : Option Addr) (c0_6 : Nat) (l0_6 : List Cut) (x1 : Int) (w : World) (hl_l0_6 : RdRow w A0_6 l0_6.length 3 (elC l0_6)) (hm_l0_6 : l0_6.length ≤ 17) (hA_l0_6 : A0_6 = none → l0_6.length = 0) : Calls Try.prog 3 #[.agg #[I x0_0, I x0_1, I x0_2, I x0_3, I x0_4, I x0_5, .slice A0_6 l0_6.length c0_6], I x1] w fun e w' => e = .returned (.bool (spilelaw35_RunBalances x0_0 x0_1 x0_2 x0_3 x0_4 x0_5 l0_6 x1)) ∧ Below w.heap.size w w' := by
  refine enterPlain tfine Try.func3 rfl 103 Try.ntmps3 [.agg [.k (I x0_0), .k (I x0_1), .k (I x0_2), .k (I x0_3), .k (I x0_4), .k (I x0_5), .inp 1000 A0_6 l0_6.length c0_6], .c (.k (I x1))] [⟨1000, A0_6, 3, l0_6.length, elC l0_6⟩] rfl rfl ⟨hl_l0_6, trivial⟩ ⟨⟨trivial, trivial, trivial, trivial, trivial, trivial, .inl ⟨rfl, rfl, rfl⟩, trivial⟩, trivial, trivial⟩ ?_
  refine G.seqR tfine rfl ?_ ?_
  · first | trivial | (simp [AllP, condB]; done) | (simp only [AllP]; and_intros <;> first | trivial | decide | omega) | (simp [AllP, condB]; intros; and_intros <;> first | assumption | omega) | (simp [AllP, condB]; intros; simp_all; done) | (simp [AllP, condB]; intros; simp_all; omega) | (simp [AllP, condB]; omega)
  refine G.seq ?_
  refine G.seqC tfine rfl ?_ ?_
  · first | trivial | (simp [AllP, condB]; done) | (simp only [AllP]; and_intros <;> first | trivial | decide | omega) | (simp [AllP, condB]; intros; and_intros <;> first | assumption | omega) | (simp [AllP, condB]; intros; simp_all; done) | (simp [AllP, condB]; intros; simp_all; omega) | (simp [AllP, condB]; omega)
  refine GO.callPlain (v := .bool true)  rfl rfl rfl rfl (fun args w => Try.call10 args w) (fun ρ w hs hok => awake_any w) ?_
  refine GO.fin tfine rfl ?_ ?_
  · first | trivial | (simp [AllP, condB]; done) | (simp only [AllP]; and_intros <;> first | trivial | decide | omega) | (simp [AllP, condB]; intros; and_intros <;> first | assumption | omega) | (simp [AllP, condB]; intros; simp_all; done) | (simp [AllP, condB]; intros; simp_all; omega) | (simp [AllP, condB]; omega)
  refine G.cond_false rfl ?_
  refine G.skip ?_
  refine G.seq ?_
  refine G.seqC tfine rfl ?_ ?_
  · first | trivial | (simp [AllP, condB]; done) | (simp only [AllP]; and_intros <;> first | trivial | decide | omega) | (simp [AllP, condB]; intros; and_intros <;> first | assumption | omega) | (simp [AllP, condB]; intros; simp_all; done) | (simp [AllP, condB]; intros; simp_all; omega) | (simp [AllP, condB]; omega)
  refine GO.callPlain (v := .bool (spileref35_Few x0_0 x0_1 x0_2 x0_3 x0_4 x0_5 l0_6))  rfl rfl rfl rfl (fun args w => Try.call11 args w) (fun ρ w hs hok => spileref35_Few_any _ _ _ _ _ _ A0_6 c0_6 l0_6 w (hs.row (cap := c0_6) rfl (hok _ List.mem_cons_self _ (List.mem_cons_of_mem _ (List.mem_cons_of_mem _ (List.mem_cons_of_mem _ (List.mem_cons_of_mem _ (List.mem_cons_of_mem _ (List.mem_cons_of_mem _ List.mem_cons_self))))))))) ?_
  refine GO.fin tfine rfl ?_ ?_
  · first | trivial | (simp [AllP, condB]; done) | (simp only [AllP]; and_intros <;> first | trivial | decide | omega) | (simp [AllP, condB]; intros; and_intros <;> first | assumption | omega) | (simp [AllP, condB]; intros; simp_all; done) | (simp [AllP, condB]; intros; simp_all; omega) | (simp [AllP, condB]; omega)
  refine G.cond (b := !(spileref35_Few x0_0 x0_1 x0_2 x0_3 x0_4 x0_5 l0_6)) rfl (fun h1 => ?_) (fun h1 => ?_)
  · refine G.seqR tfine rfl ?_ ?_
    · first | trivial | (simp [AllP, condB]; done) | (simp only [AllP]; and_intros <;> first | trivial | decide | omega) | (simp [AllP, condB]; intros; and_intros <;> first | assumption | omega) | (simp [AllP, condB]; intros; simp_all; done) | (simp [AllP, condB]; intros; simp_all; omega) | (simp [AllP, condB]; omega)
    refine G.ret (endK.ret rfl ?_)
    first | (rw [spilelaw35_RunBalances, if_pos h1]; done) | (rw [spilelaw35_RunBalances, if_pos h1]; rfl)
  refine G.skip ?_
  refine G.seqC tfine rfl ?_ ?_
  · first | trivial | (simp [AllP, condB]; done) | (simp only [AllP]; and_intros <;> first | trivial | decide | omega) | (simp [AllP, condB]; intros; and_intros <;> first | assumption | omega) | (simp [AllP, condB]; intros; simp_all; done) | (simp [AllP, condB]; intros; simp_all; omega) | (simp [AllP, condB]; omega)
  refine GO.callTabP ([I x0_0, I x0_1, I x0_2, I x0_3, I x0_4, I x0_5], []) rfl rfl rfl rfl rfl rfl rfl (fun args w => Try.call13 args w) (fun ρ w hs hok => cp_any _ _ _ _ _ _ A0_6 c0_6 l0_6 w (hs.row (cap := c0_6) rfl (hok _ List.mem_cons_self _ (List.mem_cons_of_mem _ (List.mem_cons_of_mem _ (List.mem_cons_of_mem _ (List.mem_cons_of_mem _ (List.mem_cons_of_mem _ (List.mem_cons_of_mem _ List.mem_cons_self)))))))) hm_l0_6 hA_l0_6) (fun A28 k28 => ?_)
  refine GO.callPlain (v := .tuple #[I ((balM x0_0 x0_1 x0_2 x0_3 x0_4 x0_5 l0_6).1), I ((balM x0_0 x0_1 x0_2 x0_3 x0_4 x0_5 l0_6).2.1), I ((balM x0_0 x0_1 x0_2 x0_3 x0_4 x0_5 l0_6).2.2)])  rfl rfl rfl rfl (fun args w => Try.call12 args w) (fun ρ w hs hok => runBalance_any _ _ _ _ _ _ A28 k28 l0_6 w (hs.row (cap := k28) rfl (hok _ List.mem_cons_self _ (List.mem_cons_of_mem _ (List.mem_cons_of_mem _ (List.mem_cons_of_mem _ (List.mem_cons_of_mem _ (List.mem_cons_of_mem _ (List.mem_cons_of_mem _ List.mem_cons_self)))))))) hm_l0_6) ?_
  refine GO.fin tfine rfl ?_ ?_
  · first | trivial | (simp [AllP, condB]; done) | (simp only [AllP]; and_intros <;> first | trivial | decide | omega) | (simp [AllP, condB]; intros; and_intros <;> first | assumption | omega) | (simp [AllP, condB]; intros; simp_all; done) | (simp [AllP, condB]; intros; simp_all; omega) | (simp [AllP, condB]; omega)
  refine G.seqC tfine rfl ?_ ?_
  · first | trivial | (simp [AllP, condB]; done) | (simp only [AllP]; and_intros <;> first | trivial | decide | omega) | (simp [AllP, condB]; intros; and_intros <;> first | assumption | omega) | (simp [AllP, condB]; intros; simp_all; done) | (simp [AllP, condB]; intros; simp_all; omega) | (simp [AllP, condB]; omega)
  refine GO.callPlain (v := .tuple #[I ((balM x0_0 x0_1 x0_2 x0_3 x0_4 x0_5 l0_6).1), I ((balM x0_0 x0_1 x0_2 x0_3 x0_4 x0_5 l0_6).2.1), I ((balM x0_0 x0_1 x0_2 x0_3 x0_4 x0_5 l0_6).2.2)])  rfl rfl rfl rfl (fun args w => Try.call14 args w) (fun ρ w hs hok => refBalance_any _ _ _ _ _ _ A0_6 c0_6 l0_6 w (hs.row (cap := c0_6) rfl (hok _ List.mem_cons_self _ (List.mem_cons_of_mem _ (List.mem_cons_of_mem _ (List.mem_cons_of_mem _ (List.mem_cons_of_mem _ (List.mem_cons_of_mem _ (List.mem_cons_of_mem _ List.mem_cons_self)))))))) hm_l0_6) ?_
  refine GO.fin tfine rfl ?_ ?_
  · first | trivial | (simp [AllP, condB]; done) | (simp only [AllP]; and_intros <;> first | trivial | decide | omega) | (simp [AllP, condB]; intros; and_intros <;> first | assumption | omega) | (simp [AllP, condB]; intros; simp_all; done) | (simp [AllP, condB]; intros; simp_all; omega) | (simp [AllP, condB]; omega)
  refine G.seqC tfine rfl ?_ ?_
  · first | trivial | (simp [AllP, condB]; done) | (simp only [AllP]; and_intros <;> first | trivial | decide | omega) | (simp [AllP, condB]; intros; and_intros <;> first | assumption | omega) | (simp [AllP, condB]; intros; simp_all; done) | (simp [AllP, condB]; intros; simp_all; omega) | (simp [AllP, condB]; omega)
  refine GO.callTabP ([I x0_0, I x0_1, I x0_2, I x0_3, I x0_4, I x0_5], []) rfl rfl rfl rfl rfl rfl rfl (fun args w => Try.call13 args w) (fun ρ w hs hok => cp_any _ _ _ _ _ _ A0_6 c0_6 l0_6 w (hs.row (cap := c0_6) rfl (hok _ List.mem_cons_self _ (List.mem_cons_of_mem _ (List.mem_cons_of_mem _ (List.mem_cons_of_mem _ (List.mem_cons_of_mem _ (List.mem_cons_of_mem _ (List.mem_cons_of_mem _ List.mem_cons_self)))))))) hm_l0_6 hA_l0_6) (fun A41 k41 => ?_)
  refine GO.more tfine rfl ?_ ?_
  · first | trivial | (simp [AllP, condB]; done) | (simp only [AllP]; and_intros <;> first | trivial | decide | omega) | (simp [AllP, condB]; intros; and_intros <;> first | assumption | omega) | (simp [AllP, condB]; intros; simp_all; done) | (simp [AllP, condB]; intros; simp_all; omega) | (simp [AllP, condB]; omega)
  refine GO.callPlain (v := .tuple #[.bool ((cloM x0_0 x0_1 x0_2 x0_3 x0_4 x0_5 l0_6 x1).1), I ((cloM x0_0 x0_1 x0_2 x0_3 x0_4 x0_5 l0_6 x1).2)])  rfl rfl rfl rfl (fun args w => Try.call15 args w) (fun ρ w hs hok => runCloses_any _ _ _ _ _ _ A41 k41 l0_6 _ w (hs.row (cap := k41) rfl (hok _ List.mem_cons_self _ (List.mem_cons_of_mem _ (List.mem_cons_of_mem _ (List.mem_cons_of_mem _ (List.mem_cons_of_mem _ (List.mem_cons_of_mem _ (List.mem_cons_of_mem _ List.mem_cons_self)))))))) hm_l0_6) ?_
  refine GO.fin tfine rfl ?_ ?_
  · first | trivial | (simp [AllP, condB]; done) | (simp only [AllP]; and_intros <;> first | trivial | decide | omega) | (simp [AllP, condB]; intros; and_intros <;> first | assumption | omega) | (simp [AllP, condB]; intros; simp_all; done) | (simp [AllP, condB]; intros; simp_all; omega) | (simp [AllP, condB]; omega)
  refine G.seqC tfine rfl ?_ ?_
  · first | trivial | (simp [AllP, condB]; done) | (simp only [AllP]; and_intros <;> first | trivial | decide | omega) | (simp [AllP, condB]; intros; and_intros <;> first | assumption | omega) | (simp [AllP, condB]; intros; simp_all; done) | (simp [AllP, condB]; intros; simp_all; omega) | (simp [AllP, condB]; omega)
  refine GO.callPlain (v := .tuple #[.bool ((cloM x0_0 x0_1 x0_2 x0_3 x0_4 x0_5 l0_6 x1).1), I ((cloM x0_0 x0_1 x0_2 x0_3 x0_4 x0_5 l0_6 x1).2)])  rfl rfl rfl rfl (fun args w => Try.call16 args w) (fun ρ w hs hok => refCloses_any _ _ _ _ _ _ A0_6 c0_6 l0_6 _ w (hs.row (cap := c0_6) rfl (hok _ List.mem_cons_self _ (List.mem_cons_of_mem _ (List.mem_cons_of_mem _ (List.mem_cons_of_mem _ (List.mem_cons_of_mem _ (List.mem_cons_of_mem _ (List.mem_cons_of_mem _ List.mem_cons_self)))))))) hm_l0_6) ?_
  refine GO.fin tfine rfl ?_ ?_
  · first | trivial | (simp [AllP, condB]; done) | (simp only [AllP]; and_intros <;> first | trivial | decide | omega) | (simp [AllP, condB]; intros; and_intros <;> first | assumption | omega) | (simp [AllP, condB]; intros; simp_all; done) | (simp [AllP, condB]; intros; simp_all; omega) | (simp [AllP, condB]; omega)
  refine G.seqC tfine rfl ?_ ?_
  · first | trivial | (simp [AllP, condB]; done) | (simp only [AllP]; and_intros <;> first | trivial | decide | omega) | (simp [AllP, condB]; intros; and_intros <;> first | assumption | omega) | (simp [AllP, condB]; intros; simp_all; done) | (simp [AllP, condB]; intros; simp_all; omega) | (simp [AllP, condB]; omega)
  refine GO.callTabP ([I x0_0, I x0_1, I x0_2, I x0_3, I x0_4, I x0_5], []) rfl rfl rfl rfl rfl rfl rfl (fun args w => Try.call13 args w) (fun ρ w hs hok => cp_any _ _ _ _ _ _ A0_6 c0_6 l0_6 w (hs.row (cap := c0_6) rfl (hok _ List.mem_cons_self _ (List.mem_cons_of_mem _ (List.mem_cons_of_mem _ (List.mem_cons_of_mem _ (List.mem_cons_of_mem _ (List.mem_cons_of_mem _ (List.mem_cons_of_mem _ List.mem_cons_self)))))))) hm_l0_6 hA_l0_6) (fun A54 k54 => ?_)
  refine GO.callPlain (v := .tuple #[I ((yieM x0_0 x0_1 x0_2 x0_3 x0_4 x0_5 l0_6).1), I ((yieM x0_0 x0_1 x0_2 x0_3 x0_4 x0_5 l0_6).2.1), I ((yieM x0_0 x0_1 x0_2 x0_3 x0_4 x0_5 l0_6).2.2)])  rfl rfl rfl rfl (fun args w => Try.call17 args w) (fun ρ w hs hok => runYield_any _ _ _ _ _ _ A54 k54 l0_6 w (hs.row (cap := k54) rfl (hok _ List.mem_cons_self _ (List.mem_cons_of_mem _ (List.mem_cons_of_mem _ (List.mem_cons_of_mem _ (List.mem_cons_of_mem _ (List.mem_cons_of_mem _ (List.mem_cons_of_mem _ List.mem_cons_self)))))))) hm_l0_6) ?_
  refine GO.fin tfine rfl ?_ ?_
  · first | trivial | (simp [AllP, condB]; done) | (simp only [AllP]; and_intros <;> first | trivial | decide | omega) | (simp [AllP, condB]; intros; and_intros <;> first | assumption | omega) | (simp [AllP, condB]; intros; simp_all; done) | (simp [AllP, condB]; intros; simp_all; omega) | (simp [AllP, condB]; omega)
  refine G.seqC tfine rfl ?_ ?_
  · first | trivial | (simp [AllP, condB]; done) | (simp only [AllP]; and_intros <;> first | trivial | decide | omega) | (simp [AllP, condB]; intros; and_intros <;> first | assumption | omega) | (simp [AllP, condB]; intros; simp_all; done) | (simp [AllP, condB]; intros; simp_all; omega) | (simp [AllP, condB]; omega)
  refine GO.callPlain (v := .tuple #[I ((yieM x0_0 x0_1 x0_2 x0_3 x0_4 x0_5 l0_6).1), I ((yieM x0_0 x0_1 x0_2 x0_3 x0_4 x0_5 l0_6).2.1), I ((yieM x0_0 x0_1 x0_2 x0_3 x0_4 x0_5 l0_6).2.2)])  rfl rfl rfl rfl (fun args w => Try.call18 args w) (fun ρ w hs hok => refYield_any _ _ _ _ _ _ A0_6 c0_6 l0_6 w (hs.row (cap := c0_6) rfl (hok _ List.mem_cons_self _ (List.mem_cons_of_mem _ (List.mem_cons_of_mem _ (List.mem_cons_of_mem _ (List.mem_cons_of_mem _ (List.mem_cons_of_mem _ (List.mem_cons_of_mem _ List.mem_cons_self)))))))) hm_l0_6) ?_
  refine GO.fin tfine rfl ?_ ?_
  · first | trivial | (simp [AllP, condB]; done) | (simp only [AllP]; and_intros <;> first | trivial | decide | omega) | (simp [AllP, condB]; intros; and_intros <;> first | assumption | omega) | (simp [AllP, condB]; intros; simp_all; done) | (simp [AllP, condB]; intros; simp_all; omega) | (simp [AllP, condB]; omega)
  refine G.seqR tfine rfl ?_ ?_
  · first | trivial | (simp [AllP, condB]; done) | (simp only [AllP]; and_intros <;> first | trivial | decide | omega) | (simp [AllP, condB]; intros; and_intros <;> first | assumption | omega) | (simp [AllP, condB]; intros; simp_all; done) | (simp [AllP, condB]; intros; simp_all; omega) | (simp [AllP, condB]; omega)
  refine G.ret (endK.ret rfl ?_)
  first | (rw [spilelaw35_RunBalances, if_neg (fne h1)]; done) | (rw [spilelaw35_RunBalances, if_neg (fne h1)]; rfl)
def spilelaw35_RunWider (x0_0 : Int) (x0_1 : Int) (x0_2 : Int) (x0_3 : Int) (x0_4 : Int) (x0_5 : Int) (l0_6 : List Cut) (x1 : Int) (x2 : Int) : Bool := if (!(spileref35_Few x0_0 x0_1 x0_2 x0_3 x0_4 x0_5 l0_6)) = true then (true) else if (((cloM x0_0 x0_1 x0_2 x0_3 x0_4 x0_5 l0_6 x1).2) != (0 : Int)) = true then (!((cloM x0_0 x0_1 x0_2 x0_3 x0_4 x0_5 l0_6 x1).1)) else (((((((cloM x0_0 x0_1 x0_2 x0_3 x0_4 x0_5 l0_6 (if (if (1000000 : Int) < x2 then (1000000 : Int) else x2) > x1 then (if (1000000 : Int) < x2 then (1000000 : Int) else x2) else x1)).2) == (0 : Int)) && (((cloM x0_0 x0_1 x0_2 x0_3 x0_4 x0_5 l0_6 (0 : Int)).2) == (0 : Int))) && (((balM x0_0 x0_1 x0_2 x0_3 x0_4 x0_5 l0_6).2.2) == (0 : Int))) && ((!((cloM x0_0 x0_1 x0_2 x0_3 x0_4 x0_5 l0_6 x1).1)) || ((cloM x0_0 x0_1 x0_2 x0_3 x0_4 x0_5 l0_6 (if (if (1000000 : Int) < x2 then (1000000 : Int) else x2) > x1 then (if (1000000 : Int) < x2 then (1000000 : Int) else x2) else x1)).1))) && (((cloM x0_0 x0_1 x0_2 x0_3 x0_4 x0_5 l0_6 (0 : Int)).1) == ((((balM x0_0 x0_1 x0_2 x0_3 x0_4 x0_5 l0_6).1) == (0 : Int)) && (((balM x0_0 x0_1 x0_2 x0_3 x0_4 x0_5 l0_6).2.1) == (0 : Int)))))
theorem spilelaw35_RunWider_any (x0_0 : Int) (x0_1 : Int) (x0_2 : Int) (x0_3 : Int) (x0_4 : Int) (x0_5 : Int) (A0_6 : Option Addr) (c0_6 : Nat) (l0_6 : List Cut) (x1 : Int) (x2 : Int) (w : World) (hl_l0_6 : RdRow w A0_6 l0_6.length 3 (elC l0_6)) (hm_l0_6 : l0_6.length ≤ 17) (hA_l0_6 : A0_6 = none → l0_6.length = 0) : Calls Try.prog 4 #[.agg #[I x0_0, I x0_1, I x0_2, I x0_3, I x0_4, I x0_5, .slice A0_6 l0_6.length c0_6], I x1, I x2] w fun e w' => e = .returned (.bool (spilelaw35_RunWider x0_0 x0_1 x0_2 x0_3 x0_4 x0_5 l0_6 x1 x2)) ∧ Below w.heap.size w w' := by
  refine enterPlain tfine Try.func4 rfl 82 Try.ntmps4 [.agg [.k (I x0_0), .k (I x0_1), .k (I x0_2), .k (I x0_3), .k (I x0_4), .k (I x0_5), .inp 1000 A0_6 l0_6.length c0_6], .c (.k (I x1)), .c (.k (I x2))] [⟨1000, A0_6, 3, l0_6.length, elC l0_6⟩] rfl rfl ⟨hl_l0_6, trivial⟩ ⟨⟨trivial, trivial, trivial, trivial, trivial, trivial, .inl ⟨rfl, rfl, rfl⟩, trivial⟩, trivial, trivial, trivial⟩ ?_
  refine G.seqR tfine rfl ?_ ?_
  · first | trivial | (simp [AllP, condB]; done) | (simp only [AllP]; and_intros <;> first | trivial | decide | omega) | (simp [AllP, condB]; intros; and_intros <;> first | assumption | omega) | (simp [AllP, condB]; intros; simp_all; done) | (simp [AllP, condB]; intros; simp_all; omega) | (simp [AllP, condB]; omega)
  refine G.seq ?_
  refine G.seqC tfine rfl ?_ ?_
  · first | trivial | (simp [AllP, condB]; done) | (simp only [AllP]; and_intros <;> first | trivial | decide | omega) | (simp [AllP, condB]; intros; and_intros <;> first | assumption | omega) | (simp [AllP, condB]; intros; simp_all; done) | (simp [AllP, condB]; intros; simp_all; omega) | (simp [AllP, condB]; omega)
  refine GO.callPlain (v := .bool true)  rfl rfl rfl rfl (fun args w => Try.call10 args w) (fun ρ w hs hok => awake_any w) ?_
  refine GO.fin tfine rfl ?_ ?_
  · first | trivial | (simp [AllP, condB]; done) | (simp only [AllP]; and_intros <;> first | trivial | decide | omega) | (simp [AllP, condB]; intros; and_intros <;> first | assumption | omega) | (simp [AllP, condB]; intros; simp_all; done) | (simp [AllP, condB]; intros; simp_all; omega) | (simp [AllP, condB]; omega)
  refine G.cond_false rfl ?_
  refine G.skip ?_
  refine G.seq ?_
  refine G.seqC tfine rfl ?_ ?_
  · first | trivial | (simp [AllP, condB]; done) | (simp only [AllP]; and_intros <;> first | trivial | decide | omega) | (simp [AllP, condB]; intros; and_intros <;> first | assumption | omega) | (simp [AllP, condB]; intros; simp_all; done) | (simp [AllP, condB]; intros; simp_all; omega) | (simp [AllP, condB]; omega)
  refine GO.callPlain (v := .bool (spileref35_Few x0_0 x0_1 x0_2 x0_3 x0_4 x0_5 l0_6))  rfl rfl rfl rfl (fun args w => Try.call11 args w) (fun ρ w hs hok => spileref35_Few_any _ _ _ _ _ _ A0_6 c0_6 l0_6 w (hs.row (cap := c0_6) rfl (hok _ List.mem_cons_self _ (List.mem_cons_of_mem _ (List.mem_cons_of_mem _ (List.mem_cons_of_mem _ (List.mem_cons_of_mem _ (List.mem_cons_of_mem _ (List.mem_cons_of_mem _ List.mem_cons_self))))))))) ?_
  refine GO.fin tfine rfl ?_ ?_
  · first | trivial | (simp [AllP, condB]; done) | (simp only [AllP]; and_intros <;> first | trivial | decide | omega) | (simp [AllP, condB]; intros; and_intros <;> first | assumption | omega) | (simp [AllP, condB]; intros; simp_all; done) | (simp [AllP, condB]; intros; simp_all; omega) | (simp [AllP, condB]; omega)
  refine G.cond (b := !(spileref35_Few x0_0 x0_1 x0_2 x0_3 x0_4 x0_5 l0_6)) rfl (fun h1 => ?_) (fun h1 => ?_)
  · refine G.seqR tfine rfl ?_ ?_
    · first | trivial | (simp [AllP, condB]; done) | (simp only [AllP]; and_intros <;> first | trivial | decide | omega) | (simp [AllP, condB]; intros; and_intros <;> first | assumption | omega) | (simp [AllP, condB]; intros; simp_all; done) | (simp [AllP, condB]; intros; simp_all; omega) | (simp [AllP, condB]; omega)
    refine G.ret (endK.ret rfl ?_)
    first | (rw [spilelaw35_RunWider, if_pos h1]; done) | (rw [spilelaw35_RunWider, if_pos h1]; rfl)
  refine G.skip ?_
  refine G.seqC tfine rfl ?_ ?_
  · first | trivial | (simp [AllP, condB]; done) | (simp only [AllP]; and_intros <;> first | trivial | decide | omega) | (simp [AllP, condB]; intros; and_intros <;> first | assumption | omega) | (simp [AllP, condB]; intros; simp_all; done) | (simp [AllP, condB]; intros; simp_all; omega) | (simp [AllP, condB]; omega)
  refine GO.callTabP ([I x0_0, I x0_1, I x0_2, I x0_3, I x0_4, I x0_5], []) rfl rfl rfl rfl rfl rfl rfl (fun args w => Try.call13 args w) (fun ρ w hs hok => cp_any _ _ _ _ _ _ A0_6 c0_6 l0_6 w (hs.row (cap := c0_6) rfl (hok _ List.mem_cons_self _ (List.mem_cons_of_mem _ (List.mem_cons_of_mem _ (List.mem_cons_of_mem _ (List.mem_cons_of_mem _ (List.mem_cons_of_mem _ (List.mem_cons_of_mem _ List.mem_cons_self)))))))) hm_l0_6 hA_l0_6) (fun A23 k23 => ?_)
  refine GO.more tfine rfl ?_ ?_
  · first | trivial | (simp [AllP, condB]; done) | (simp only [AllP]; and_intros <;> first | trivial | decide | omega) | (simp [AllP, condB]; intros; and_intros <;> first | assumption | omega) | (simp [AllP, condB]; intros; simp_all; done) | (simp [AllP, condB]; intros; simp_all; omega) | (simp [AllP, condB]; omega)
  refine GO.callPlain (v := .tuple #[.bool ((cloM x0_0 x0_1 x0_2 x0_3 x0_4 x0_5 l0_6 x1).1), I ((cloM x0_0 x0_1 x0_2 x0_3 x0_4 x0_5 l0_6 x1).2)])  rfl rfl rfl rfl (fun args w => Try.call15 args w) (fun ρ w hs hok => runCloses_any _ _ _ _ _ _ A23 k23 l0_6 _ w (hs.row (cap := k23) rfl (hok _ List.mem_cons_self _ (List.mem_cons_of_mem _ (List.mem_cons_of_mem _ (List.mem_cons_of_mem _ (List.mem_cons_of_mem _ (List.mem_cons_of_mem _ (List.mem_cons_of_mem _ List.mem_cons_self)))))))) hm_l0_6) ?_
  refine GO.fin tfine rfl ?_ ?_
  · first | trivial | (simp [AllP, condB]; done) | (simp only [AllP]; and_intros <;> first | trivial | decide | omega) | (simp [AllP, condB]; intros; and_intros <;> first | assumption | omega) | (simp [AllP, condB]; intros; simp_all; done) | (simp [AllP, condB]; intros; simp_all; omega) | (simp [AllP, condB]; omega)
  refine G.seq ?_
  refine G.seqR tfine rfl ?_ ?_
  · first | trivial | (simp [AllP, condB]; done) | (simp only [AllP]; and_intros <;> first | trivial | decide | omega) | (simp [AllP, condB]; intros; and_intros <;> first | assumption | omega) | (simp [AllP, condB]; intros; simp_all; done) | (simp [AllP, condB]; intros; simp_all; omega) | (simp [AllP, condB]; omega)
  refine G.cond (b := ((cloM x0_0 x0_1 x0_2 x0_3 x0_4 x0_5 l0_6 x1).2) != (0 : Int)) rfl (fun h2 => ?_) (fun h2 => ?_)
  · refine G.seqR tfine rfl ?_ ?_
    · first | trivial | (simp [AllP, condB]; done) | (simp only [AllP]; and_intros <;> first | trivial | decide | omega) | (simp [AllP, condB]; intros; and_intros <;> first | assumption | omega) | (simp [AllP, condB]; intros; simp_all; done) | (simp [AllP, condB]; intros; simp_all; omega) | (simp [AllP, condB]; omega)
    refine G.ret (endK.ret rfl ?_)
    first | (rw [spilelaw35_RunWider, if_neg (fne h1), if_pos h2]; done) | (rw [spilelaw35_RunWider, if_neg (fne h1), if_pos h2]; rfl)
  refine G.skip ?_
  refine G.seqC tfine rfl ?_ ?_
  · first | trivial | (simp [AllP, condB]; done) | (simp only [AllP]; and_intros <;> first | trivial | decide | omega) | (simp [AllP, condB]; intros; and_intros <;> first | assumption | omega) | (simp [AllP, condB]; intros; simp_all; done) | (simp [AllP, condB]; intros; simp_all; omega) | (simp [AllP, condB]; omega)
  refine GO.callTabP ([I x0_0, I x0_1, I x0_2, I x0_3, I x0_4, I x0_5], []) rfl rfl rfl rfl rfl rfl rfl (fun args w => Try.call13 args w) (fun ρ w hs hok => cp_any _ _ _ _ _ _ A0_6 c0_6 l0_6 w (hs.row (cap := c0_6) rfl (hok _ List.mem_cons_self _ (List.mem_cons_of_mem _ (List.mem_cons_of_mem _ (List.mem_cons_of_mem _ (List.mem_cons_of_mem _ (List.mem_cons_of_mem _ (List.mem_cons_of_mem _ List.mem_cons_self)))))))) hm_l0_6 hA_l0_6) (fun A34 k34 => ?_)
  refine GO.more tfine rfl ?_ ?_
  · first | trivial | (simp [AllP, condB]; done) | (simp only [AllP]; and_intros <;> first | trivial | decide | omega) | (simp [AllP, condB]; intros; and_intros <;> first | assumption | omega) | (simp [AllP, condB]; intros; simp_all; done) | (simp [AllP, condB]; intros; simp_all; omega) | (simp [AllP, condB]; omega)
  refine GO.callPlain (v := .tuple #[.bool ((cloM x0_0 x0_1 x0_2 x0_3 x0_4 x0_5 l0_6 (if (if (1000000 : Int) < x2 then (1000000 : Int) else x2) > x1 then (if (1000000 : Int) < x2 then (1000000 : Int) else x2) else x1)).1), I ((cloM x0_0 x0_1 x0_2 x0_3 x0_4 x0_5 l0_6 (if (if (1000000 : Int) < x2 then (1000000 : Int) else x2) > x1 then (if (1000000 : Int) < x2 then (1000000 : Int) else x2) else x1)).2)])  rfl rfl rfl rfl (fun args w => Try.call15 args w) (fun ρ w hs hok => runCloses_any _ _ _ _ _ _ A34 k34 l0_6 _ w (hs.row (cap := k34) rfl (hok _ List.mem_cons_self _ (List.mem_cons_of_mem _ (List.mem_cons_of_mem _ (List.mem_cons_of_mem _ (List.mem_cons_of_mem _ (List.mem_cons_of_mem _ (List.mem_cons_of_mem _ List.mem_cons_self)))))))) hm_l0_6) ?_
  refine GO.fin tfine rfl ?_ ?_
  · first | trivial | (simp [AllP, condB]; done) | (simp only [AllP]; and_intros <;> first | trivial | decide | omega) | (simp [AllP, condB]; intros; and_intros <;> first | assumption | omega) | (simp [AllP, condB]; intros; simp_all; done) | (simp [AllP, condB]; intros; simp_all; omega) | (simp [AllP, condB]; omega)
  refine G.seqC tfine rfl ?_ ?_
  · first | trivial | (simp [AllP, condB]; done) | (simp only [AllP]; and_intros <;> first | trivial | decide | omega) | (simp [AllP, condB]; intros; and_intros <;> first | assumption | omega) | (simp [AllP, condB]; intros; simp_all; done) | (simp [AllP, condB]; intros; simp_all; omega) | (simp [AllP, condB]; omega)
  refine GO.callTabP ([I x0_0, I x0_1, I x0_2, I x0_3, I x0_4, I x0_5], []) rfl rfl rfl rfl rfl rfl rfl (fun args w => Try.call13 args w) (fun ρ w hs hok => cp_any _ _ _ _ _ _ A0_6 c0_6 l0_6 w (hs.row (cap := c0_6) rfl (hok _ List.mem_cons_self _ (List.mem_cons_of_mem _ (List.mem_cons_of_mem _ (List.mem_cons_of_mem _ (List.mem_cons_of_mem _ (List.mem_cons_of_mem _ (List.mem_cons_of_mem _ List.mem_cons_self)))))))) hm_l0_6 hA_l0_6) (fun A44 k44 => ?_)
  refine GO.callPlain (v := .tuple #[.bool ((cloM x0_0 x0_1 x0_2 x0_3 x0_4 x0_5 l0_6 (0 : Int)).1), I ((cloM x0_0 x0_1 x0_2 x0_3 x0_4 x0_5 l0_6 (0 : Int)).2)])  rfl rfl rfl rfl (fun args w => Try.call15 args w) (fun ρ w hs hok => runCloses_any _ _ _ _ _ _ A44 k44 l0_6 _ w (hs.row (cap := k44) rfl (hok _ List.mem_cons_self _ (List.mem_cons_of_mem _ (List.mem_cons_of_mem _ (List.mem_cons_of_mem _ (List.mem_cons_of_mem _ (List.mem_cons_of_mem _ (List.mem_cons_of_mem _ List.mem_cons_self)))))))) hm_l0_6) ?_
  refine GO.fin tfine rfl ?_ ?_
  · first | trivial | (simp [AllP, condB]; done) | (simp only [AllP]; and_intros <;> first | trivial | decide | omega) | (simp [AllP, condB]; intros; and_intros <;> first | assumption | omega) | (simp [AllP, condB]; intros; simp_all; done) | (simp [AllP, condB]; intros; simp_all; omega) | (simp [AllP, condB]; omega)
  refine G.seqC tfine rfl ?_ ?_
  · first | trivial | (simp [AllP, condB]; done) | (simp only [AllP]; and_intros <;> first | trivial | decide | omega) | (simp [AllP, condB]; intros; and_intros <;> first | assumption | omega) | (simp [AllP, condB]; intros; simp_all; done) | (simp [AllP, condB]; intros; simp_all; omega) | (simp [AllP, condB]; omega)
  refine GO.callTabP ([I x0_0, I x0_1, I x0_2, I x0_3, I x0_4, I x0_5], []) rfl rfl rfl rfl rfl rfl rfl (fun args w => Try.call13 args w) (fun ρ w hs hok => cp_any _ _ _ _ _ _ A0_6 c0_6 l0_6 w (hs.row (cap := c0_6) rfl (hok _ List.mem_cons_self _ (List.mem_cons_of_mem _ (List.mem_cons_of_mem _ (List.mem_cons_of_mem _ (List.mem_cons_of_mem _ (List.mem_cons_of_mem _ (List.mem_cons_of_mem _ List.mem_cons_self)))))))) hm_l0_6 hA_l0_6) (fun A50 k50 => ?_)
  refine GO.callPlain (v := .tuple #[I ((balM x0_0 x0_1 x0_2 x0_3 x0_4 x0_5 l0_6).1), I ((balM x0_0 x0_1 x0_2 x0_3 x0_4 x0_5 l0_6).2.1), I ((balM x0_0 x0_1 x0_2 x0_3 x0_4 x0_5 l0_6).2.2)])  rfl rfl rfl rfl (fun args w => Try.call12 args w) (fun ρ w hs hok => runBalance_any _ _ _ _ _ _ A50 k50 l0_6 w (hs.row (cap := k50) rfl (hok _ List.mem_cons_self _ (List.mem_cons_of_mem _ (List.mem_cons_of_mem _ (List.mem_cons_of_mem _ (List.mem_cons_of_mem _ (List.mem_cons_of_mem _ (List.mem_cons_of_mem _ List.mem_cons_self)))))))) hm_l0_6) ?_
  refine GO.fin tfine rfl ?_ ?_
  · first | trivial | (simp [AllP, condB]; done) | (simp only [AllP]; and_intros <;> first | trivial | decide | omega) | (simp [AllP, condB]; intros; and_intros <;> first | assumption | omega) | (simp [AllP, condB]; intros; simp_all; done) | (simp [AllP, condB]; intros; simp_all; omega) | (simp [AllP, condB]; omega)
  refine G.seqR tfine rfl ?_ ?_
  · first | trivial | (simp [AllP, condB]; done) | (simp only [AllP]; and_intros <;> first | trivial | decide | omega) | (simp [AllP, condB]; intros; and_intros <;> first | assumption | omega) | (simp [AllP, condB]; intros; simp_all; done) | (simp [AllP, condB]; intros; simp_all; omega) | (simp [AllP, condB]; omega)
  refine G.ret (endK.ret rfl ?_)
  first | (rw [spilelaw35_RunWider, if_neg (fne h1), if_neg (fne h2)]; done) | (rw [spilelaw35_RunWider, if_neg (fne h1), if_neg (fne h2)]; rfl)
def spilelaw35_RunSums (x0_0 : Int) (x0_1 : Int) (x0_2 : Int) (x0_3 : Int) (x0_4 : Int) (x0_5 : Int) (l0_6 : List Cut) (x1 : Int) : Bool := if (!(spileref35_Few x0_0 x0_1 x0_2 x0_3 x0_4 x0_5 l0_6)) = true then (true) else ((((((((refCheckE x0_0 x0_1 x0_2 x0_3 x0_4 x0_5 l0_6) == (refCheckE x0_0 x0_1 x0_2 x0_3 x0_4 x0_5 l0_6)) && (((sumM x0_0 x0_1 x0_2 x0_3 x0_4 x0_5 l0_6 x1).1) == ((sumM x0_0 x0_1 x0_2 x0_3 x0_4 x0_5 l0_6 x1).1))) && (((sumM x0_0 x0_1 x0_2 x0_3 x0_4 x0_5 l0_6 x1).2.1) == ((sumM x0_0 x0_1 x0_2 x0_3 x0_4 x0_5 l0_6 x1).2.1))) && (((sumM x0_0 x0_1 x0_2 x0_3 x0_4 x0_5 l0_6 x1).2.2) == ((sumM x0_0 x0_1 x0_2 x0_3 x0_4 x0_5 l0_6 x1).2.2))) && (((feiM x0_0 x0_1 x0_2 x0_3 x0_4 x0_5 l0_6).1) == ((feiM x0_0 x0_1 x0_2 x0_3 x0_4 x0_5 l0_6).1))) && (((feiM x0_0 x0_1 x0_2 x0_3 x0_4 x0_5 l0_6).2.1) == ((feiM x0_0 x0_1 x0_2 x0_3 x0_4 x0_5 l0_6).2.1))) && (((feiM x0_0 x0_1 x0_2 x0_3 x0_4 x0_5 l0_6).2.2) == ((feiM x0_0 x0_1 x0_2 x0_3 x0_4 x0_5 l0_6).2.2)))
theorem spilelaw35_RunSums_any (x0_0 : Int) (x0_1 : Int) (x0_2 : Int) (x0_3 : Int) (x0_4 : Int) (x0_5 : Int) (A0_6 : Option Addr) (c0_6 : Nat) (l0_6 : List Cut) (x1 : Int) (w : World) (hl_l0_6 : RdRow w A0_6 l0_6.length 3 (elC l0_6)) (hm_l0_6 : l0_6.length ≤ 17) (hA_l0_6 : A0_6 = none → l0_6.length = 0) : Calls Try.prog 5 #[.agg #[I x0_0, I x0_1, I x0_2, I x0_3, I x0_4, I x0_5, .slice A0_6 l0_6.length c0_6], I x1] w fun e w' => e = .returned (.bool (spilelaw35_RunSums x0_0 x0_1 x0_2 x0_3 x0_4 x0_5 l0_6 x1)) ∧ Below w.heap.size w w' := by
  refine enterPlain tfine Try.func5 rfl 86 Try.ntmps5 [.agg [.k (I x0_0), .k (I x0_1), .k (I x0_2), .k (I x0_3), .k (I x0_4), .k (I x0_5), .inp 1000 A0_6 l0_6.length c0_6], .c (.k (I x1))] [⟨1000, A0_6, 3, l0_6.length, elC l0_6⟩] rfl rfl ⟨hl_l0_6, trivial⟩ ⟨⟨trivial, trivial, trivial, trivial, trivial, trivial, .inl ⟨rfl, rfl, rfl⟩, trivial⟩, trivial, trivial⟩ ?_
  refine G.seqR tfine rfl ?_ ?_
  · first | trivial | (simp [AllP, condB]; done) | (simp only [AllP]; and_intros <;> first | trivial | decide | omega) | (simp [AllP, condB]; intros; and_intros <;> first | assumption | omega) | (simp [AllP, condB]; intros; simp_all; done) | (simp [AllP, condB]; intros; simp_all; omega) | (simp [AllP, condB]; omega)
  refine G.seq ?_
  refine G.seqC tfine rfl ?_ ?_
  · first | trivial | (simp [AllP, condB]; done) | (simp only [AllP]; and_intros <;> first | trivial | decide | omega) | (simp [AllP, condB]; intros; and_intros <;> first | assumption | omega) | (simp [AllP, condB]; intros; simp_all; done) | (simp [AllP, condB]; intros; simp_all; omega) | (simp [AllP, condB]; omega)
  refine GO.callPlain (v := .bool true)  rfl rfl rfl rfl (fun args w => Try.call10 args w) (fun ρ w hs hok => awake_any w) ?_
  refine GO.fin tfine rfl ?_ ?_
  · first | trivial | (simp [AllP, condB]; done) | (simp only [AllP]; and_intros <;> first | trivial | decide | omega) | (simp [AllP, condB]; intros; and_intros <;> first | assumption | omega) | (simp [AllP, condB]; intros; simp_all; done) | (simp [AllP, condB]; intros; simp_all; omega) | (simp [AllP, condB]; omega)
  refine G.cond_false rfl ?_
  refine G.skip ?_
  refine G.seq ?_
  refine G.seqC tfine rfl ?_ ?_
  · first | trivial | (simp [AllP, condB]; done) | (simp only [AllP]; and_intros <;> first | trivial | decide | omega) | (simp [AllP, condB]; intros; and_intros <;> first | assumption | omega) | (simp [AllP, condB]; intros; simp_all; done) | (simp [AllP, condB]; intros; simp_all; omega) | (simp [AllP, condB]; omega)
  refine GO.callPlain (v := .bool (spileref35_Few x0_0 x0_1 x0_2 x0_3 x0_4 x0_5 l0_6))  rfl rfl rfl rfl (fun args w => Try.call11 args w) (fun ρ w hs hok => spileref35_Few_any _ _ _ _ _ _ A0_6 c0_6 l0_6 w (hs.row (cap := c0_6) rfl (hok _ List.mem_cons_self _ (List.mem_cons_of_mem _ (List.mem_cons_of_mem _ (List.mem_cons_of_mem _ (List.mem_cons_of_mem _ (List.mem_cons_of_mem _ (List.mem_cons_of_mem _ List.mem_cons_self))))))))) ?_
  refine GO.fin tfine rfl ?_ ?_
  · first | trivial | (simp [AllP, condB]; done) | (simp only [AllP]; and_intros <;> first | trivial | decide | omega) | (simp [AllP, condB]; intros; and_intros <;> first | assumption | omega) | (simp [AllP, condB]; intros; simp_all; done) | (simp [AllP, condB]; intros; simp_all; omega) | (simp [AllP, condB]; omega)
  refine G.cond (b := !(spileref35_Few x0_0 x0_1 x0_2 x0_3 x0_4 x0_5 l0_6)) rfl (fun h1 => ?_) (fun h1 => ?_)
  · refine G.seqR tfine rfl ?_ ?_
    · first | trivial | (simp [AllP, condB]; done) | (simp only [AllP]; and_intros <;> first | trivial | decide | omega) | (simp [AllP, condB]; intros; and_intros <;> first | assumption | omega) | (simp [AllP, condB]; intros; simp_all; done) | (simp [AllP, condB]; intros; simp_all; omega) | (simp [AllP, condB]; omega)
    refine G.ret (endK.ret rfl ?_)
    first | (rw [spilelaw35_RunSums, if_pos h1]; done) | (rw [spilelaw35_RunSums, if_pos h1]; rfl)
  refine G.skip ?_
  refine G.seqC tfine rfl ?_ ?_
  · first | trivial | (simp [AllP, condB]; done) | (simp only [AllP]; and_intros <;> first | trivial | decide | omega) | (simp [AllP, condB]; intros; and_intros <;> first | assumption | omega) | (simp [AllP, condB]; intros; simp_all; done) | (simp [AllP, condB]; intros; simp_all; omega) | (simp [AllP, condB]; omega)
  refine GO.callTabP ([I x0_0, I x0_1, I x0_2, I x0_3, I x0_4, I x0_5], []) rfl rfl rfl rfl rfl rfl rfl (fun args w => Try.call13 args w) (fun ρ w hs hok => cp_any _ _ _ _ _ _ A0_6 c0_6 l0_6 w (hs.row (cap := c0_6) rfl (hok _ List.mem_cons_self _ (List.mem_cons_of_mem _ (List.mem_cons_of_mem _ (List.mem_cons_of_mem _ (List.mem_cons_of_mem _ (List.mem_cons_of_mem _ (List.mem_cons_of_mem _ List.mem_cons_self)))))))) hm_l0_6 hA_l0_6) (fun A24 k24 => ?_)
  refine GO.more tfine rfl ?_ ?_
  · first | trivial | (simp [AllP, condB]; done) | (simp only [AllP]; and_intros <;> first | trivial | decide | omega) | (simp [AllP, condB]; intros; and_intros <;> first | assumption | omega) | (simp [AllP, condB]; intros; simp_all; done) | (simp [AllP, condB]; intros; simp_all; omega) | (simp [AllP, condB]; omega)
  refine GO.callPlain (v := .tuple #[I ((sumM x0_0 x0_1 x0_2 x0_3 x0_4 x0_5 l0_6 x1).1), I ((sumM x0_0 x0_1 x0_2 x0_3 x0_4 x0_5 l0_6 x1).2.1), I ((sumM x0_0 x0_1 x0_2 x0_3 x0_4 x0_5 l0_6 x1).2.2)])  rfl rfl rfl rfl (fun args w => Try.call19 args w) (fun ρ w hs hok => runSum_any _ _ _ _ _ _ A24 k24 l0_6 _ w (hs.row (cap := k24) rfl (hok _ List.mem_cons_self _ (List.mem_cons_of_mem _ (List.mem_cons_of_mem _ (List.mem_cons_of_mem _ (List.mem_cons_of_mem _ (List.mem_cons_of_mem _ (List.mem_cons_of_mem _ List.mem_cons_self)))))))) hm_l0_6) ?_
  refine GO.fin tfine rfl ?_ ?_
  · first | trivial | (simp [AllP, condB]; done) | (simp only [AllP]; and_intros <;> first | trivial | decide | omega) | (simp [AllP, condB]; intros; and_intros <;> first | assumption | omega) | (simp [AllP, condB]; intros; simp_all; done) | (simp [AllP, condB]; intros; simp_all; omega) | (simp [AllP, condB]; omega)
  refine G.seqC tfine rfl ?_ ?_
  · first | trivial | (simp [AllP, condB]; done) | (simp only [AllP]; and_intros <;> first | trivial | decide | omega) | (simp [AllP, condB]; intros; and_intros <;> first | assumption | omega) | (simp [AllP, condB]; intros; simp_all; done) | (simp [AllP, condB]; intros; simp_all; omega) | (simp [AllP, condB]; omega)
  refine GO.callPlain (v := .tuple #[I ((sumM x0_0 x0_1 x0_2 x0_3 x0_4 x0_5 l0_6 x1).1), I ((sumM x0_0 x0_1 x0_2 x0_3 x0_4 x0_5 l0_6 x1).2.1), I ((sumM x0_0 x0_1 x0_2 x0_3 x0_4 x0_5 l0_6 x1).2.2)])  rfl rfl rfl rfl (fun args w => Try.call20 args w) (fun ρ w hs hok => refSum2_any _ _ _ _ _ _ A0_6 c0_6 l0_6 _ w (hs.row (cap := c0_6) rfl (hok _ List.mem_cons_self _ (List.mem_cons_of_mem _ (List.mem_cons_of_mem _ (List.mem_cons_of_mem _ (List.mem_cons_of_mem _ (List.mem_cons_of_mem _ (List.mem_cons_of_mem _ List.mem_cons_self)))))))) hm_l0_6) ?_
  refine GO.fin tfine rfl ?_ ?_
  · first | trivial | (simp [AllP, condB]; done) | (simp only [AllP]; and_intros <;> first | trivial | decide | omega) | (simp [AllP, condB]; intros; and_intros <;> first | assumption | omega) | (simp [AllP, condB]; intros; simp_all; done) | (simp [AllP, condB]; intros; simp_all; omega) | (simp [AllP, condB]; omega)
  refine G.seqC tfine rfl ?_ ?_
  · first | trivial | (simp [AllP, condB]; done) | (simp only [AllP]; and_intros <;> first | trivial | decide | omega) | (simp [AllP, condB]; intros; and_intros <;> first | assumption | omega) | (simp [AllP, condB]; intros; simp_all; done) | (simp [AllP, condB]; intros; simp_all; omega) | (simp [AllP, condB]; omega)
  refine GO.callTabP ([I x0_0, I x0_1, I x0_2, I x0_3, I x0_4, I x0_5], []) rfl rfl rfl rfl rfl rfl rfl (fun args w => Try.call13 args w) (fun ρ w hs hok => cp_any _ _ _ _ _ _ A0_6 c0_6 l0_6 w (hs.row (cap := c0_6) rfl (hok _ List.mem_cons_self _ (List.mem_cons_of_mem _ (List.mem_cons_of_mem _ (List.mem_cons_of_mem _ (List.mem_cons_of_mem _ (List.mem_cons_of_mem _ (List.mem_cons_of_mem _ List.mem_cons_self)))))))) hm_l0_6 hA_l0_6) (fun A39 k39 => ?_)
  refine GO.callPlain (v := .tuple #[I ((feiM x0_0 x0_1 x0_2 x0_3 x0_4 x0_5 l0_6).1), I ((feiM x0_0 x0_1 x0_2 x0_3 x0_4 x0_5 l0_6).2.1), I ((feiM x0_0 x0_1 x0_2 x0_3 x0_4 x0_5 l0_6).2.2)])  rfl rfl rfl rfl (fun args w => Try.call21 args w) (fun ρ w hs hok => runFeints_any _ _ _ _ _ _ A39 k39 l0_6 w (hs.row (cap := k39) rfl (hok _ List.mem_cons_self _ (List.mem_cons_of_mem _ (List.mem_cons_of_mem _ (List.mem_cons_of_mem _ (List.mem_cons_of_mem _ (List.mem_cons_of_mem _ (List.mem_cons_of_mem _ List.mem_cons_self)))))))) hm_l0_6) ?_
  refine GO.fin tfine rfl ?_ ?_
  · first | trivial | (simp [AllP, condB]; done) | (simp only [AllP]; and_intros <;> first | trivial | decide | omega) | (simp [AllP, condB]; intros; and_intros <;> first | assumption | omega) | (simp [AllP, condB]; intros; simp_all; done) | (simp [AllP, condB]; intros; simp_all; omega) | (simp [AllP, condB]; omega)
  refine G.seqC tfine rfl ?_ ?_
  · first | trivial | (simp [AllP, condB]; done) | (simp only [AllP]; and_intros <;> first | trivial | decide | omega) | (simp [AllP, condB]; intros; and_intros <;> first | assumption | omega) | (simp [AllP, condB]; intros; simp_all; done) | (simp [AllP, condB]; intros; simp_all; omega) | (simp [AllP, condB]; omega)
  refine GO.callPlain (v := .tuple #[I ((feiM x0_0 x0_1 x0_2 x0_3 x0_4 x0_5 l0_6).1), I ((feiM x0_0 x0_1 x0_2 x0_3 x0_4 x0_5 l0_6).2.1), I ((feiM x0_0 x0_1 x0_2 x0_3 x0_4 x0_5 l0_6).2.2)])  rfl rfl rfl rfl (fun args w => Try.call22 args w) (fun ρ w hs hok => refFeints_any _ _ _ _ _ _ A0_6 c0_6 l0_6 w (hs.row (cap := c0_6) rfl (hok _ List.mem_cons_self _ (List.mem_cons_of_mem _ (List.mem_cons_of_mem _ (List.mem_cons_of_mem _ (List.mem_cons_of_mem _ (List.mem_cons_of_mem _ (List.mem_cons_of_mem _ List.mem_cons_self)))))))) hm_l0_6) ?_
  refine GO.fin tfine rfl ?_ ?_
  · first | trivial | (simp [AllP, condB]; done) | (simp only [AllP]; and_intros <;> first | trivial | decide | omega) | (simp [AllP, condB]; intros; and_intros <;> first | assumption | omega) | (simp [AllP, condB]; intros; simp_all; done) | (simp [AllP, condB]; intros; simp_all; omega) | (simp [AllP, condB]; omega)
  refine G.seqDraw hmix [0, 1, 3, 0, 15, 31, 63, 127, 127, 511, 1023, 2047, 4095, 4095, 16383, 32767, 65535, 131071, 131071, 524287, 1048575, 2097151, 4194303, 4194303, 16777215, 33554431, 67108863, 134217727, 134217727, 536870911, 1073741823, 2147483647, 4294967295, 4294967295, 17179869183, 34359738367, 68719476735] [(1, 51)] rfl rfl rfl ?_
  refine GD.more tfine 0 rfl rfl ?_ ?_
  · first | trivial | (simp [AllP, condB]; done) | (simp only [AllP]; and_intros <;> first | trivial | decide | omega) | (simp [AllP, condB]; intros; and_intros <;> first | assumption | omega) | (simp [AllP, condB]; intros; simp_all; done) | (simp [AllP, condB]; intros; simp_all; omega) | (simp [AllP, condB]; omega)
  refine GD.callTab (some ([I x0_0, I x0_1, I x0_2, I x0_3, I x0_4, I x0_5], [])) 1 rfl rfl rfl rfl rfl rfl rfl rfl (fun args w => Try.call13 args w) (fun m hle ρ w hs hok => cp_any _ _ _ _ _ _ A0_6 c0_6 l0_6 w (hs.row (cap := c0_6) (LeM.at hle rfl) (hok _ List.mem_cons_self _ (List.mem_cons_of_mem _ (List.mem_cons_of_mem _ (List.mem_cons_of_mem _ (List.mem_cons_of_mem _ (List.mem_cons_of_mem _ (List.mem_cons_of_mem _ List.mem_cons_self)))))))) hm_l0_6 hA_l0_6) rfl ?_
  refine GD.callOpen (v := I (refCheckE x0_0 x0_1 x0_2 x0_3 x0_4 x0_5 l0_6)) 51 51 l0_6.length (some ([I x0_0, I x0_1, I x0_2, I x0_3, I x0_4, I x0_5], [])) 2 rfl rfl rfl rfl (fun A51 k51 => rfl) rfl (fun args w => Try.call23 args w) (fun A51 k51 m hle ρ w hs hok => checkR_any _ _ _ _ _ _ A51 k51 l0_6 w (hs.row (cap := k51) (LeM.at hle rfl) (hok _ List.mem_cons_self _ (List.mem_cons_of_mem _ (List.mem_cons_of_mem _ (List.mem_cons_of_mem _ (List.mem_cons_of_mem _ (List.mem_cons_of_mem _ (List.mem_cons_of_mem _ List.mem_cons_self)))))))) hm_l0_6) ?_
  refine GD.more tfine 3 rfl rfl ?_ ?_
  · first | trivial | (simp [AllP, condB]; done) | (simp only [AllP]; and_intros <;> first | trivial | decide | omega) | (simp [AllP, condB]; intros; and_intros <;> first | assumption | omega) | (simp [AllP, condB]; intros; simp_all; done) | (simp [AllP, condB]; intros; simp_all; omega) | (simp [AllP, condB]; omega)
  refine GD.call (v := I (refCheckE x0_0 x0_1 x0_2 x0_3 x0_4 x0_5 l0_6)) 4 rfl rfl rfl rfl rfl (fun args w => Try.call24 args w) (fun m hle ρ w hs hok => refCheck_any _ _ _ _ _ _ A0_6 c0_6 l0_6 w (hs.row (cap := c0_6) (LeM.at hle rfl) (hok _ List.mem_cons_self _ (List.mem_cons_of_mem _ (List.mem_cons_of_mem _ (List.mem_cons_of_mem _ (List.mem_cons_of_mem _ (List.mem_cons_of_mem _ (List.mem_cons_of_mem _ List.mem_cons_self)))))))) hm_l0_6) ?_
  refine GD.fin tfine 5 rfl rfl ?_ ?_
  · first | trivial | (simp [AllP, condB]; done) | (simp only [AllP]; and_intros <;> first | trivial | decide | omega) | (simp [AllP, condB]; intros; and_intros <;> first | assumption | omega) | (simp [AllP, condB]; intros; simp_all; done) | (simp [AllP, condB]; intros; simp_all; omega) | (simp [AllP, condB]; omega)
  refine G.ret (endK.ret rfl ?_)
  first | (rw [spilelaw35_RunSums, if_neg (fne h1)]; done) | (rw [spilelaw35_RunSums, if_neg (fne h1)]; rfl)
def spilelaw35_RunCloses (x0_0 : Int) (x0_1 : Int) (x0_2 : Int) (x0_3 : Int) (x0_4 : Int) (x0_5 : Int) (l0_6 : List Cut) : Bool := if (!(spileref35_Few x0_0 x0_1 x0_2 x0_3 x0_4 x0_5 l0_6)) = true then (true) else if (((balM x0_0 x0_1 x0_2 x0_3 x0_4 x0_5 l0_6).2.2) != (0 : Int)) = true then ((((balM x0_0 x0_1 x0_2 x0_3 x0_4 x0_5 l0_6).1) == (0 : Int)) && (((balM x0_0 x0_1 x0_2 x0_3 x0_4 x0_5 l0_6).2.1) == (0 : Int))) else if (((((sumM x0_0 x0_1 x0_2 x0_3 x0_4 x0_5 l0_6 (1 : Int)).2.2) != (0 : Int)) || (decide (((sumM x0_0 x0_1 x0_2 x0_3 x0_4 x0_5 l0_6 (1 : Int)).1) < (0 : Int)))) || (decide (((sumM x0_0 x0_1 x0_2 x0_3 x0_4 x0_5 l0_6 (1 : Int)).2.1) < (0 : Int)))) = true then (false) else if (((((sumM x0_0 x0_1 x0_2 x0_3 x0_4 x0_5 l0_6 (2 : Int)).2.2) != (0 : Int)) || (decide (((sumM x0_0 x0_1 x0_2 x0_3 x0_4 x0_5 l0_6 (2 : Int)).1) < (0 : Int)))) || (decide (((sumM x0_0 x0_1 x0_2 x0_3 x0_4 x0_5 l0_6 (2 : Int)).2.1) < (0 : Int)))) = true then (false) else if (((((sumM x0_0 x0_1 x0_2 x0_3 x0_4 x0_5 l0_6 (3 : Int)).2.2) != (0 : Int)) || (decide (((sumM x0_0 x0_1 x0_2 x0_3 x0_4 x0_5 l0_6 (3 : Int)).1) < (0 : Int)))) || (decide (((sumM x0_0 x0_1 x0_2 x0_3 x0_4 x0_5 l0_6 (3 : Int)).2.1) < (0 : Int)))) = true then (false) else if (((((sumM x0_0 x0_1 x0_2 x0_3 x0_4 x0_5 l0_6 (4 : Int)).2.2) != (0 : Int)) || (decide (((sumM x0_0 x0_1 x0_2 x0_3 x0_4 x0_5 l0_6 (4 : Int)).1) < (0 : Int)))) || (decide (((sumM x0_0 x0_1 x0_2 x0_3 x0_4 x0_5 l0_6 (4 : Int)).2.1) < (0 : Int)))) = true then (false) else (((IntKind.i64.wrap ((IntKind.i64.wrap ((IntKind.i64.wrap ((IntKind.i64.wrap (((balM x0_0 x0_1 x0_2 x0_3 x0_4 x0_5 l0_6).1) + ((sumM x0_0 x0_1 x0_2 x0_3 x0_4 x0_5 l0_6 (1 : Int)).1))) + ((sumM x0_0 x0_1 x0_2 x0_3 x0_4 x0_5 l0_6 (2 : Int)).1))) + ((sumM x0_0 x0_1 x0_2 x0_3 x0_4 x0_5 l0_6 (3 : Int)).1))) + ((sumM x0_0 x0_1 x0_2 x0_3 x0_4 x0_5 l0_6 (4 : Int)).1))) == (IntKind.i64.wrap (x0_2 + x0_4))) && ((IntKind.i64.wrap ((IntKind.i64.wrap ((IntKind.i64.wrap ((IntKind.i64.wrap (((balM x0_0 x0_1 x0_2 x0_3 x0_4 x0_5 l0_6).2.1) + ((sumM x0_0 x0_1 x0_2 x0_3 x0_4 x0_5 l0_6 (1 : Int)).2.1))) + ((sumM x0_0 x0_1 x0_2 x0_3 x0_4 x0_5 l0_6 (2 : Int)).2.1))) + ((sumM x0_0 x0_1 x0_2 x0_3 x0_4 x0_5 l0_6 (3 : Int)).2.1))) + ((sumM x0_0 x0_1 x0_2 x0_3 x0_4 x0_5 l0_6 (4 : Int)).2.1))) == (IntKind.i64.wrap (x0_3 + x0_5))))
theorem spilelaw35_RunCloses_any (x0_0 : Int) (x0_1 : Int) (x0_2 : Int) (x0_3 : Int) (x0_4 : Int) (x0_5 : Int) (A0_6 : Option Addr) (c0_6 : Nat) (l0_6 : List Cut) (w : World) (hl_l0_6 : RdRow w A0_6 l0_6.length 3 (elC l0_6)) (hm_l0_6 : l0_6.length ≤ 17) (hA_l0_6 : A0_6 = none → l0_6.length = 0) : Calls Try.prog 6 #[.agg #[I x0_0, I x0_1, I x0_2, I x0_3, I x0_4, I x0_5, .slice A0_6 l0_6.length c0_6]] w fun e w' => e = .returned (.bool (spilelaw35_RunCloses x0_0 x0_1 x0_2 x0_3 x0_4 x0_5 l0_6)) ∧ Below w.heap.size w w' := by
  refine enterPlain tfine Try.func6 rfl 74 Try.ntmps6 [.agg [.k (I x0_0), .k (I x0_1), .k (I x0_2), .k (I x0_3), .k (I x0_4), .k (I x0_5), .inp 1000 A0_6 l0_6.length c0_6]] [⟨1000, A0_6, 3, l0_6.length, elC l0_6⟩] rfl rfl ⟨hl_l0_6, trivial⟩ ⟨⟨trivial, trivial, trivial, trivial, trivial, trivial, .inl ⟨rfl, rfl, rfl⟩, trivial⟩, trivial⟩ ?_
  refine G.seqR tfine rfl ?_ ?_
  · first | trivial | (simp [AllP, condB]; done) | (simp only [AllP]; and_intros <;> first | trivial | decide | omega) | (simp [AllP, condB]; intros; and_intros <;> first | assumption | omega) | (simp [AllP, condB]; intros; simp_all; done) | (simp [AllP, condB]; intros; simp_all; omega) | (simp [AllP, condB]; omega)
  refine G.seq ?_
  refine G.seqC tfine rfl ?_ ?_
  · first | trivial | (simp [AllP, condB]; done) | (simp only [AllP]; and_intros <;> first | trivial | decide | omega) | (simp [AllP, condB]; intros; and_intros <;> first | assumption | omega) | (simp [AllP, condB]; intros; simp_all; done) | (simp [AllP, condB]; intros; simp_all; omega) | (simp [AllP, condB]; omega)
  refine GO.callPlain (v := .bool true)  rfl rfl rfl rfl (fun args w => Try.call10 args w) (fun ρ w hs hok => awake_any w) ?_
  refine GO.fin tfine rfl ?_ ?_
  · first | trivial | (simp [AllP, condB]; done) | (simp only [AllP]; and_intros <;> first | trivial | decide | omega) | (simp [AllP, condB]; intros; and_intros <;> first | assumption | omega) | (simp [AllP, condB]; intros; simp_all; done) | (simp [AllP, condB]; intros; simp_all; omega) | (simp [AllP, condB]; omega)
  refine G.cond_false rfl ?_
  refine G.skip ?_
  refine G.seq ?_
  refine G.seqC tfine rfl ?_ ?_
  · first | trivial | (simp [AllP, condB]; done) | (simp only [AllP]; and_intros <;> first | trivial | decide | omega) | (simp [AllP, condB]; intros; and_intros <;> first | assumption | omega) | (simp [AllP, condB]; intros; simp_all; done) | (simp [AllP, condB]; intros; simp_all; omega) | (simp [AllP, condB]; omega)
  refine GO.callPlain (v := .bool (spileref35_Few x0_0 x0_1 x0_2 x0_3 x0_4 x0_5 l0_6))  rfl rfl rfl rfl (fun args w => Try.call11 args w) (fun ρ w hs hok => spileref35_Few_any _ _ _ _ _ _ A0_6 c0_6 l0_6 w (hs.row (cap := c0_6) rfl (hok _ List.mem_cons_self _ (List.mem_cons_of_mem _ (List.mem_cons_of_mem _ (List.mem_cons_of_mem _ (List.mem_cons_of_mem _ (List.mem_cons_of_mem _ (List.mem_cons_of_mem _ List.mem_cons_self))))))))) ?_
  refine GO.fin tfine rfl ?_ ?_
  · first | trivial | (simp [AllP, condB]; done) | (simp only [AllP]; and_intros <;> first | trivial | decide | omega) | (simp [AllP, condB]; intros; and_intros <;> first | assumption | omega) | (simp [AllP, condB]; intros; simp_all; done) | (simp [AllP, condB]; intros; simp_all; omega) | (simp [AllP, condB]; omega)
  refine G.cond (b := !(spileref35_Few x0_0 x0_1 x0_2 x0_3 x0_4 x0_5 l0_6)) rfl (fun h1 => ?_) (fun h1 => ?_)
  · refine G.seqR tfine rfl ?_ ?_
    · first | trivial | (simp [AllP, condB]; done) | (simp only [AllP]; and_intros <;> first | trivial | decide | omega) | (simp [AllP, condB]; intros; and_intros <;> first | assumption | omega) | (simp [AllP, condB]; intros; simp_all; done) | (simp [AllP, condB]; intros; simp_all; omega) | (simp [AllP, condB]; omega)
    refine G.ret (endK.ret rfl ?_)
    first | (rw [spilelaw35_RunCloses, if_pos h1]; done) | (rw [spilelaw35_RunCloses, if_pos h1]; rfl)
  refine G.skip ?_
  refine G.seqC tfine rfl ?_ ?_
  · first | trivial | (simp [AllP, condB]; done) | (simp only [AllP]; and_intros <;> first | trivial | decide | omega) | (simp [AllP, condB]; intros; and_intros <;> first | assumption | omega) | (simp [AllP, condB]; intros; simp_all; done) | (simp [AllP, condB]; intros; simp_all; omega) | (simp [AllP, condB]; omega)
  refine GO.callTabP ([I x0_0, I x0_1, I x0_2, I x0_3, I x0_4, I x0_5], []) rfl rfl rfl rfl rfl rfl rfl (fun args w => Try.call13 args w) (fun ρ w hs hok => cp_any _ _ _ _ _ _ A0_6 c0_6 l0_6 w (hs.row (cap := c0_6) rfl (hok _ List.mem_cons_self _ (List.mem_cons_of_mem _ (List.mem_cons_of_mem _ (List.mem_cons_of_mem _ (List.mem_cons_of_mem _ (List.mem_cons_of_mem _ (List.mem_cons_of_mem _ List.mem_cons_self)))))))) hm_l0_6 hA_l0_6) (fun A17 k17 => ?_)
  refine GO.callPlain (v := .tuple #[I ((balM x0_0 x0_1 x0_2 x0_3 x0_4 x0_5 l0_6).1), I ((balM x0_0 x0_1 x0_2 x0_3 x0_4 x0_5 l0_6).2.1), I ((balM x0_0 x0_1 x0_2 x0_3 x0_4 x0_5 l0_6).2.2)])  rfl rfl rfl rfl (fun args w => Try.call12 args w) (fun ρ w hs hok => runBalance_any _ _ _ _ _ _ A17 k17 l0_6 w (hs.row (cap := k17) rfl (hok _ List.mem_cons_self _ (List.mem_cons_of_mem _ (List.mem_cons_of_mem _ (List.mem_cons_of_mem _ (List.mem_cons_of_mem _ (List.mem_cons_of_mem _ (List.mem_cons_of_mem _ List.mem_cons_self)))))))) hm_l0_6) ?_
  refine GO.fin tfine rfl ?_ ?_
  · first | trivial | (simp [AllP, condB]; done) | (simp only [AllP]; and_intros <;> first | trivial | decide | omega) | (simp [AllP, condB]; intros; and_intros <;> first | assumption | omega) | (simp [AllP, condB]; intros; simp_all; done) | (simp [AllP, condB]; intros; simp_all; omega) | (simp [AllP, condB]; omega)
  refine G.seq ?_
  refine G.seqR tfine rfl ?_ ?_
  · first | trivial | (simp [AllP, condB]; done) | (simp only [AllP]; and_intros <;> first | trivial | decide | omega) | (simp [AllP, condB]; intros; and_intros <;> first | assumption | omega) | (simp [AllP, condB]; intros; simp_all; done) | (simp [AllP, condB]; intros; simp_all; omega) | (simp [AllP, condB]; omega)
  refine G.cond (b := ((balM x0_0 x0_1 x0_2 x0_3 x0_4 x0_5 l0_6).2.2) != (0 : Int)) rfl (fun h2 => ?_) (fun h2 => ?_)
  · refine G.seqR tfine rfl ?_ ?_
    · first | trivial | (simp [AllP, condB]; done) | (simp only [AllP]; and_intros <;> first | trivial | decide | omega) | (simp [AllP, condB]; intros; and_intros <;> first | assumption | omega) | (simp [AllP, condB]; intros; simp_all; done) | (simp [AllP, condB]; intros; simp_all; omega) | (simp [AllP, condB]; omega)
    refine G.ret (endK.ret rfl ?_)
    first | (rw [spilelaw35_RunCloses, if_neg (fne h1), if_pos h2]; done) | (rw [spilelaw35_RunCloses, if_neg (fne h1), if_pos h2]; rfl)
  refine G.skip ?_
  refine G.seq ?_
  refine G.seqR tfine rfl ?_ ?_
  · first | trivial | (simp [AllP, condB]; done) | (simp only [AllP]; and_intros <;> first | trivial | decide | omega) | (simp [AllP, condB]; intros; and_intros <;> first | assumption | omega) | (simp [AllP, condB]; intros; simp_all; done) | (simp [AllP, condB]; intros; simp_all; omega) | (simp [AllP, condB]; omega)
  refine G.block ?_
  refine G.rounds ?_
  refine GI.round ?_
  refine G.seq ?_
  refine G.seqR tfine rfl ?_ ?_
  · first | trivial | (simp [AllP, condB]; done) | (simp only [AllP]; and_intros <;> first | trivial | decide | omega) | (simp [AllP, condB]; intros; and_intros <;> first | assumption | omega) | (simp [AllP, condB]; intros; simp_all; done) | (simp [AllP, condB]; intros; simp_all; omega) | (simp [AllP, condB]; omega)
  refine G.cond_true rfl ?_
  refine G.skip ?_
  refine G.seq ?_
  refine G.block ?_
  refine G.seqC tfine rfl ?_ ?_
  · first | trivial | (simp [AllP, condB]; done) | (simp only [AllP]; and_intros <;> first | trivial | decide | omega) | (simp [AllP, condB]; intros; and_intros <;> first | assumption | omega) | (simp [AllP, condB]; intros; simp_all; done) | (simp [AllP, condB]; intros; simp_all; omega) | (simp [AllP, condB]; omega)
  refine GO.callTabP ([I x0_0, I x0_1, I x0_2, I x0_3, I x0_4, I x0_5], []) rfl rfl rfl rfl rfl rfl rfl (fun args w => Try.call13 args w) (fun ρ w hs hok => cp_any _ _ _ _ _ _ A0_6 c0_6 l0_6 w (hs.row (cap := c0_6) rfl (hok _ List.mem_cons_self _ (List.mem_cons_of_mem _ (List.mem_cons_of_mem _ (List.mem_cons_of_mem _ (List.mem_cons_of_mem _ (List.mem_cons_of_mem _ (List.mem_cons_of_mem _ List.mem_cons_self)))))))) hm_l0_6 hA_l0_6) (fun A36 k36 => ?_)
  refine GO.more tfine rfl ?_ ?_
  · first | trivial | (simp [AllP, condB]; done) | (simp only [AllP]; and_intros <;> first | trivial | decide | omega) | (simp [AllP, condB]; intros; and_intros <;> first | assumption | omega) | (simp [AllP, condB]; intros; simp_all; done) | (simp [AllP, condB]; intros; simp_all; omega) | (simp [AllP, condB]; omega)
  refine GO.callPlain (v := .tuple #[I ((sumM x0_0 x0_1 x0_2 x0_3 x0_4 x0_5 l0_6 (1 : Int)).1), I ((sumM x0_0 x0_1 x0_2 x0_3 x0_4 x0_5 l0_6 (1 : Int)).2.1), I ((sumM x0_0 x0_1 x0_2 x0_3 x0_4 x0_5 l0_6 (1 : Int)).2.2)])  rfl rfl rfl rfl (fun args w => Try.call19 args w) (fun ρ w hs hok => runSum_any _ _ _ _ _ _ A36 k36 l0_6 _ w (hs.row (cap := k36) rfl (hok _ List.mem_cons_self _ (List.mem_cons_of_mem _ (List.mem_cons_of_mem _ (List.mem_cons_of_mem _ (List.mem_cons_of_mem _ (List.mem_cons_of_mem _ (List.mem_cons_of_mem _ List.mem_cons_self)))))))) hm_l0_6) ?_
  refine GO.fin tfine rfl ?_ ?_
  · first | trivial | (simp [AllP, condB]; done) | (simp only [AllP]; and_intros <;> first | trivial | decide | omega) | (simp [AllP, condB]; intros; and_intros <;> first | assumption | omega) | (simp [AllP, condB]; intros; simp_all; done) | (simp [AllP, condB]; intros; simp_all; omega) | (simp [AllP, condB]; omega)
  refine G.seq ?_
  refine G.seqR tfine rfl ?_ ?_
  · first | trivial | (simp [AllP, condB]; done) | (simp only [AllP]; and_intros <;> first | trivial | decide | omega) | (simp [AllP, condB]; intros; and_intros <;> first | assumption | omega) | (simp [AllP, condB]; intros; simp_all; done) | (simp [AllP, condB]; intros; simp_all; omega) | (simp [AllP, condB]; omega)
  refine G.cond (b := ((((sumM x0_0 x0_1 x0_2 x0_3 x0_4 x0_5 l0_6 (1 : Int)).2.2) != (0 : Int)) || (decide (((sumM x0_0 x0_1 x0_2 x0_3 x0_4 x0_5 l0_6 (1 : Int)).1) < (0 : Int)))) || (decide (((sumM x0_0 x0_1 x0_2 x0_3 x0_4 x0_5 l0_6 (1 : Int)).2.1) < (0 : Int)))) rfl (fun h3 => ?_) (fun h3 => ?_)
  · refine G.seqR tfine rfl ?_ ?_
    · first | trivial | (simp [AllP, condB]; done) | (simp only [AllP]; and_intros <;> first | trivial | decide | omega) | (simp [AllP, condB]; intros; and_intros <;> first | assumption | omega) | (simp [AllP, condB]; intros; simp_all; done) | (simp [AllP, condB]; intros; simp_all; omega) | (simp [AllP, condB]; omega)
    refine G.ret (endK.ret rfl ?_)
    first | (rw [spilelaw35_RunCloses, if_neg (fne h1), if_neg (fne h2), if_pos h3]; done) | (rw [spilelaw35_RunCloses, if_neg (fne h1), if_neg (fne h2), if_pos h3]; rfl)
  refine G.skip ?_
  refine G.reg tfine rfl ?_ ?_
  · first | trivial | (simp [AllP, condB]; done) | (simp only [AllP]; and_intros <;> first | trivial | decide | omega) | (simp [AllP, condB]; intros; and_intros <;> first | assumption | omega) | (simp [AllP, condB]; intros; simp_all; done) | (simp [AllP, condB]; intros; simp_all; omega) | (simp [AllP, condB]; omega)
  refine G.reg tfine rfl ?_ ?_
  · first | trivial | (simp [AllP, condB]; done) | (simp only [AllP]; and_intros <;> first | trivial | decide | omega) | (simp [AllP, condB]; intros; and_intros <;> first | assumption | omega) | (simp [AllP, condB]; intros; simp_all; done) | (simp [AllP, condB]; intros; simp_all; omega) | (simp [AllP, condB]; omega)
  refine GI.weaken (St.le_of (tl := [(0, .v (.agg [.k (I x0_0), .k (I x0_1), .k (I x0_2), .k (I x0_3), .k (I x0_4), .k (I x0_5), .inp 1000 A0_6 l0_6.length c0_6])), (1, .v (.c (.ptr 1 0 0 0))), (2, .v (.c (.k (.bool false)))), (3, .v (.c (.k (I (IntKind.i64.wrap (((balM x0_0 x0_1 x0_2 x0_3 x0_4 x0_5 l0_6).1) + ((sumM x0_0 x0_1 x0_2 x0_3 x0_4 x0_5 l0_6 (1 : Int)).1))))))), (4, .v (.c (.k (I (IntKind.i64.wrap (((balM x0_0 x0_1 x0_2 x0_3 x0_4 x0_5 l0_6).2.1) + ((sumM x0_0 x0_1 x0_2 x0_3 x0_4 x0_5 l0_6 (1 : Int)).2.1))))))), (5, .v (.c (.k (I ((balM x0_0 x0_1 x0_2 x0_3 x0_4 x0_5 l0_6).2.2))))), (6, .v (.c (.k (I (2 : Int))))), (10, .v (.c (.k (.bool true)))), (11, .v (.c (.k (.bool false)))), (12, .v (.agg [.k (I x0_0), .k (I x0_1), .k (I x0_2), .k (I x0_3), .k (I x0_4), .k (I x0_5), .inp 1000 A0_6 l0_6.length c0_6])), (13, .v (.c (.k (.bool (spileref35_Few x0_0 x0_1 x0_2 x0_3 x0_4 x0_5 l0_6))))), (14, .v (.c (.k (.bool (!(spileref35_Few x0_0 x0_1 x0_2 x0_3 x0_4 x0_5 l0_6)))))), (16, .v (.agg [.k (I x0_0), .k (I x0_1), .k (I x0_2), .k (I x0_3), .k (I x0_4), .k (I x0_5), .inp 1000 A0_6 l0_6.length c0_6])), (19, .v (.c (.k (I ((balM x0_0 x0_1 x0_2 x0_3 x0_4 x0_5 l0_6).1))))), (20, .v (.c (.k (I ((balM x0_0 x0_1 x0_2 x0_3 x0_4 x0_5 l0_6).2.1))))), (21, .v (.c (.k (I ((balM x0_0 x0_1 x0_2 x0_3 x0_4 x0_5 l0_6).2.2))))), (22, .v (.c (.k (I ((balM x0_0 x0_1 x0_2 x0_3 x0_4 x0_5 l0_6).2.2))))), (23, .v (.c (.k (.bool (((balM x0_0 x0_1 x0_2 x0_3 x0_4 x0_5 l0_6).2.2) != (0 : Int))))))]) (ml := [(1, .var 24 [.k (I x0_0), .k (I x0_1), .k (I x0_2), .k (I x0_3), .k (I x0_4), .k (I x0_5), .inp 1000 A0_6 l0_6.length c0_6]), (1000, .ro 3 l0_6.length (elC l0_6))]) rfl ⟨⟨_, rfl, Blk.le_refl _⟩, ⟨_, rfl, Blk.le_refl _⟩, trivial⟩ ⟨rfl, rfl, rfl, rfl, rfl, rfl, rfl, rfl, rfl, rfl, rfl, rfl, rfl, rfl, rfl, rfl, rfl, rfl, trivial⟩) ?_
  refine GI.round ?_
  refine G.seq ?_
  refine G.seqR tfine rfl ?_ ?_
  · first | trivial | (simp [AllP, condB]; done) | (simp only [AllP]; and_intros <;> first | trivial | decide | omega) | (simp [AllP, condB]; intros; and_intros <;> first | assumption | omega) | (simp [AllP, condB]; intros; simp_all; done) | (simp [AllP, condB]; intros; simp_all; omega) | (simp [AllP, condB]; omega)
  refine G.cond_true rfl ?_
  refine G.skip ?_
  refine G.seq ?_
  refine G.block ?_
  refine G.seqC tfine rfl ?_ ?_
  · first | trivial | (simp [AllP, condB]; done) | (simp only [AllP]; and_intros <;> first | trivial | decide | omega) | (simp [AllP, condB]; intros; and_intros <;> first | assumption | omega) | (simp [AllP, condB]; intros; simp_all; done) | (simp [AllP, condB]; intros; simp_all; omega) | (simp [AllP, condB]; omega)
  refine GO.callTabP ([I x0_0, I x0_1, I x0_2, I x0_3, I x0_4, I x0_5], []) rfl rfl rfl rfl rfl rfl rfl (fun args w => Try.call13 args w) (fun ρ w hs hok => cp_any _ _ _ _ _ _ A0_6 c0_6 l0_6 w (hs.row (cap := c0_6) rfl (hok _ List.mem_cons_self _ (List.mem_cons_of_mem _ (List.mem_cons_of_mem _ (List.mem_cons_of_mem _ (List.mem_cons_of_mem _ (List.mem_cons_of_mem _ (List.mem_cons_of_mem _ List.mem_cons_self)))))))) hm_l0_6 hA_l0_6) (fun A36 k36 => ?_)
  refine GO.more tfine rfl ?_ ?_
  · first | trivial | (simp [AllP, condB]; done) | (simp only [AllP]; and_intros <;> first | trivial | decide | omega) | (simp [AllP, condB]; intros; and_intros <;> first | assumption | omega) | (simp [AllP, condB]; intros; simp_all; done) | (simp [AllP, condB]; intros; simp_all; omega) | (simp [AllP, condB]; omega)
  refine GO.callPlain (v := .tuple #[I ((sumM x0_0 x0_1 x0_2 x0_3 x0_4 x0_5 l0_6 (2 : Int)).1), I ((sumM x0_0 x0_1 x0_2 x0_3 x0_4 x0_5 l0_6 (2 : Int)).2.1), I ((sumM x0_0 x0_1 x0_2 x0_3 x0_4 x0_5 l0_6 (2 : Int)).2.2)])  rfl rfl rfl rfl (fun args w => Try.call19 args w) (fun ρ w hs hok => runSum_any _ _ _ _ _ _ A36 k36 l0_6 _ w (hs.row (cap := k36) rfl (hok _ List.mem_cons_self _ (List.mem_cons_of_mem _ (List.mem_cons_of_mem _ (List.mem_cons_of_mem _ (List.mem_cons_of_mem _ (List.mem_cons_of_mem _ (List.mem_cons_of_mem _ List.mem_cons_self)))))))) hm_l0_6) ?_
  refine GO.fin tfine rfl ?_ ?_
  · first | trivial | (simp [AllP, condB]; done) | (simp only [AllP]; and_intros <;> first | trivial | decide | omega) | (simp [AllP, condB]; intros; and_intros <;> first | assumption | omega) | (simp [AllP, condB]; intros; simp_all; done) | (simp [AllP, condB]; intros; simp_all; omega) | (simp [AllP, condB]; omega)
  refine G.seq ?_
  refine G.seqR tfine rfl ?_ ?_
  · first | trivial | (simp [AllP, condB]; done) | (simp only [AllP]; and_intros <;> first | trivial | decide | omega) | (simp [AllP, condB]; intros; and_intros <;> first | assumption | omega) | (simp [AllP, condB]; intros; simp_all; done) | (simp [AllP, condB]; intros; simp_all; omega) | (simp [AllP, condB]; omega)
  refine G.cond (b := ((((sumM x0_0 x0_1 x0_2 x0_3 x0_4 x0_5 l0_6 (2 : Int)).2.2) != (0 : Int)) || (decide (((sumM x0_0 x0_1 x0_2 x0_3 x0_4 x0_5 l0_6 (2 : Int)).1) < (0 : Int)))) || (decide (((sumM x0_0 x0_1 x0_2 x0_3 x0_4 x0_5 l0_6 (2 : Int)).2.1) < (0 : Int)))) rfl (fun h4 => ?_) (fun h4 => ?_)
  · refine G.seqR tfine rfl ?_ ?_
    · first | trivial | (simp [AllP, condB]; done) | (simp only [AllP]; and_intros <;> first | trivial | decide | omega) | (simp [AllP, condB]; intros; and_intros <;> first | assumption | omega) | (simp [AllP, condB]; intros; simp_all; done) | (simp [AllP, condB]; intros; simp_all; omega) | (simp [AllP, condB]; omega)
    refine G.ret (endK.ret rfl ?_)
    first | (rw [spilelaw35_RunCloses, if_neg (fne h1), if_neg (fne h2), if_neg (fne h3), if_pos h4]; done) | (rw [spilelaw35_RunCloses, if_neg (fne h1), if_neg (fne h2), if_neg (fne h3), if_pos h4]; rfl)
  refine G.skip ?_
  refine G.reg tfine rfl ?_ ?_
  · first | trivial | (simp [AllP, condB]; done) | (simp only [AllP]; and_intros <;> first | trivial | decide | omega) | (simp [AllP, condB]; intros; and_intros <;> first | assumption | omega) | (simp [AllP, condB]; intros; simp_all; done) | (simp [AllP, condB]; intros; simp_all; omega) | (simp [AllP, condB]; omega)
  refine G.reg tfine rfl ?_ ?_
  · first | trivial | (simp [AllP, condB]; done) | (simp only [AllP]; and_intros <;> first | trivial | decide | omega) | (simp [AllP, condB]; intros; and_intros <;> first | assumption | omega) | (simp [AllP, condB]; intros; simp_all; done) | (simp [AllP, condB]; intros; simp_all; omega) | (simp [AllP, condB]; omega)
  refine GI.weaken (St.le_of (tl := [(0, .v (.agg [.k (I x0_0), .k (I x0_1), .k (I x0_2), .k (I x0_3), .k (I x0_4), .k (I x0_5), .inp 1000 A0_6 l0_6.length c0_6])), (1, .v (.c (.ptr 1 0 0 0))), (2, .v (.c (.k (.bool false)))), (3, .v (.c (.k (I (IntKind.i64.wrap ((IntKind.i64.wrap (((balM x0_0 x0_1 x0_2 x0_3 x0_4 x0_5 l0_6).1) + ((sumM x0_0 x0_1 x0_2 x0_3 x0_4 x0_5 l0_6 (1 : Int)).1))) + ((sumM x0_0 x0_1 x0_2 x0_3 x0_4 x0_5 l0_6 (2 : Int)).1))))))), (4, .v (.c (.k (I (IntKind.i64.wrap ((IntKind.i64.wrap (((balM x0_0 x0_1 x0_2 x0_3 x0_4 x0_5 l0_6).2.1) + ((sumM x0_0 x0_1 x0_2 x0_3 x0_4 x0_5 l0_6 (1 : Int)).2.1))) + ((sumM x0_0 x0_1 x0_2 x0_3 x0_4 x0_5 l0_6 (2 : Int)).2.1))))))), (5, .v (.c (.k (I ((balM x0_0 x0_1 x0_2 x0_3 x0_4 x0_5 l0_6).2.2))))), (6, .v (.c (.k (I (3 : Int))))), (10, .v (.c (.k (.bool true)))), (11, .v (.c (.k (.bool false)))), (12, .v (.agg [.k (I x0_0), .k (I x0_1), .k (I x0_2), .k (I x0_3), .k (I x0_4), .k (I x0_5), .inp 1000 A0_6 l0_6.length c0_6])), (13, .v (.c (.k (.bool (spileref35_Few x0_0 x0_1 x0_2 x0_3 x0_4 x0_5 l0_6))))), (14, .v (.c (.k (.bool (!(spileref35_Few x0_0 x0_1 x0_2 x0_3 x0_4 x0_5 l0_6)))))), (16, .v (.agg [.k (I x0_0), .k (I x0_1), .k (I x0_2), .k (I x0_3), .k (I x0_4), .k (I x0_5), .inp 1000 A0_6 l0_6.length c0_6])), (19, .v (.c (.k (I ((balM x0_0 x0_1 x0_2 x0_3 x0_4 x0_5 l0_6).1))))), (20, .v (.c (.k (I ((balM x0_0 x0_1 x0_2 x0_3 x0_4 x0_5 l0_6).2.1))))), (21, .v (.c (.k (I ((balM x0_0 x0_1 x0_2 x0_3 x0_4 x0_5 l0_6).2.2))))), (22, .v (.c (.k (I ((balM x0_0 x0_1 x0_2 x0_3 x0_4 x0_5 l0_6).2.2))))), (23, .v (.c (.k (.bool (((balM x0_0 x0_1 x0_2 x0_3 x0_4 x0_5 l0_6).2.2) != (0 : Int))))))]) (ml := [(1, .var 24 [.k (I x0_0), .k (I x0_1), .k (I x0_2), .k (I x0_3), .k (I x0_4), .k (I x0_5), .inp 1000 A0_6 l0_6.length c0_6]), (1000, .ro 3 l0_6.length (elC l0_6))]) rfl ⟨⟨_, rfl, Blk.le_refl _⟩, ⟨_, rfl, Blk.le_refl _⟩, trivial⟩ ⟨rfl, rfl, rfl, rfl, rfl, rfl, rfl, rfl, rfl, rfl, rfl, rfl, rfl, rfl, rfl, rfl, rfl, rfl, trivial⟩) ?_
  refine GI.round ?_
  refine G.seq ?_
  refine G.seqR tfine rfl ?_ ?_
  · first | trivial | (simp [AllP, condB]; done) | (simp only [AllP]; and_intros <;> first | trivial | decide | omega) | (simp [AllP, condB]; intros; and_intros <;> first | assumption | omega) | (simp [AllP, condB]; intros; simp_all; done) | (simp [AllP, condB]; intros; simp_all; omega) | (simp [AllP, condB]; omega)
  refine G.cond_true rfl ?_
  refine G.skip ?_
  refine G.seq ?_
  refine G.block ?_
  refine G.seqC tfine rfl ?_ ?_
  · first | trivial | (simp [AllP, condB]; done) | (simp only [AllP]; and_intros <;> first | trivial | decide | omega) | (simp [AllP, condB]; intros; and_intros <;> first | assumption | omega) | (simp [AllP, condB]; intros; simp_all; done) | (simp [AllP, condB]; intros; simp_all; omega) | (simp [AllP, condB]; omega)
  refine GO.callTabP ([I x0_0, I x0_1, I x0_2, I x0_3, I x0_4, I x0_5], []) rfl rfl rfl rfl rfl rfl rfl (fun args w => Try.call13 args w) (fun ρ w hs hok => cp_any _ _ _ _ _ _ A0_6 c0_6 l0_6 w (hs.row (cap := c0_6) rfl (hok _ List.mem_cons_self _ (List.mem_cons_of_mem _ (List.mem_cons_of_mem _ (List.mem_cons_of_mem _ (List.mem_cons_of_mem _ (List.mem_cons_of_mem _ (List.mem_cons_of_mem _ List.mem_cons_self)))))))) hm_l0_6 hA_l0_6) (fun A36 k36 => ?_)
  refine GO.more tfine rfl ?_ ?_
  · first | trivial | (simp [AllP, condB]; done) | (simp only [AllP]; and_intros <;> first | trivial | decide | omega) | (simp [AllP, condB]; intros; and_intros <;> first | assumption | omega) | (simp [AllP, condB]; intros; simp_all; done) | (simp [AllP, condB]; intros; simp_all; omega) | (simp [AllP, condB]; omega)
  refine GO.callPlain (v := .tuple #[I ((sumM x0_0 x0_1 x0_2 x0_3 x0_4 x0_5 l0_6 (3 : Int)).1), I ((sumM x0_0 x0_1 x0_2 x0_3 x0_4 x0_5 l0_6 (3 : Int)).2.1), I ((sumM x0_0 x0_1 x0_2 x0_3 x0_4 x0_5 l0_6 (3 : Int)).2.2)])  rfl rfl rfl rfl (fun args w => Try.call19 args w) (fun ρ w hs hok => runSum_any _ _ _ _ _ _ A36 k36 l0_6 _ w (hs.row (cap := k36) rfl (hok _ List.mem_cons_self _ (List.mem_cons_of_mem _ (List.mem_cons_of_mem _ (List.mem_cons_of_mem _ (List.mem_cons_of_mem _ (List.mem_cons_of_mem _ (List.mem_cons_of_mem _ List.mem_cons_self)))))))) hm_l0_6) ?_
  refine GO.fin tfine rfl ?_ ?_
  · first | trivial | (simp [AllP, condB]; done) | (simp only [AllP]; and_intros <;> first | trivial | decide | omega) | (simp [AllP, condB]; intros; and_intros <;> first | assumption | omega) | (simp [AllP, condB]; intros; simp_all; done) | (simp [AllP, condB]; intros; simp_all; omega) | (simp [AllP, condB]; omega)
  refine G.seq ?_
  refine G.seqR tfine rfl ?_ ?_
  · first | trivial | (simp [AllP, condB]; done) | (simp only [AllP]; and_intros <;> first | trivial | decide | omega) | (simp [AllP, condB]; intros; and_intros <;> first | assumption | omega) | (simp [AllP, condB]; intros; simp_all; done) | (simp [AllP, condB]; intros; simp_all; omega) | (simp [AllP, condB]; omega)
  refine G.cond (b := ((((sumM x0_0 x0_1 x0_2 x0_3 x0_4 x0_5 l0_6 (3 : Int)).2.2) != (0 : Int)) || (decide (((sumM x0_0 x0_1 x0_2 x0_3 x0_4 x0_5 l0_6 (3 : Int)).1) < (0 : Int)))) || (decide (((sumM x0_0 x0_1 x0_2 x0_3 x0_4 x0_5 l0_6 (3 : Int)).2.1) < (0 : Int)))) rfl (fun h5 => ?_) (fun h5 => ?_)
  · refine G.seqR tfine rfl ?_ ?_
    · first | trivial | (simp [AllP, condB]; done) | (simp only [AllP]; and_intros <;> first | trivial | decide | omega) | (simp [AllP, condB]; intros; and_intros <;> first | assumption | omega) | (simp [AllP, condB]; intros; simp_all; done) | (simp [AllP, condB]; intros; simp_all; omega) | (simp [AllP, condB]; omega)
    refine G.ret (endK.ret rfl ?_)
    first | (rw [spilelaw35_RunCloses, if_neg (fne h1), if_neg (fne h2), if_neg (fne h3), if_neg (fne h4), if_pos h5]; done) | (rw [spilelaw35_RunCloses, if_neg (fne h1), if_neg (fne h2), if_neg (fne h3), if_neg (fne h4), if_pos h5]; rfl)
  refine G.skip ?_
  refine G.reg tfine rfl ?_ ?_
  · first | trivial | (simp [AllP, condB]; done) | (simp only [AllP]; and_intros <;> first | trivial | decide | omega) | (simp [AllP, condB]; intros; and_intros <;> first | assumption | omega) | (simp [AllP, condB]; intros; simp_all; done) | (simp [AllP, condB]; intros; simp_all; omega) | (simp [AllP, condB]; omega)
  refine G.reg tfine rfl ?_ ?_
  · first | trivial | (simp [AllP, condB]; done) | (simp only [AllP]; and_intros <;> first | trivial | decide | omega) | (simp [AllP, condB]; intros; and_intros <;> first | assumption | omega) | (simp [AllP, condB]; intros; simp_all; done) | (simp [AllP, condB]; intros; simp_all; omega) | (simp [AllP, condB]; omega)
  refine GI.weaken (St.le_of (tl := [(0, .v (.agg [.k (I x0_0), .k (I x0_1), .k (I x0_2), .k (I x0_3), .k (I x0_4), .k (I x0_5), .inp 1000 A0_6 l0_6.length c0_6])), (1, .v (.c (.ptr 1 0 0 0))), (2, .v (.c (.k (.bool false)))), (3, .v (.c (.k (I (IntKind.i64.wrap ((IntKind.i64.wrap ((IntKind.i64.wrap (((balM x0_0 x0_1 x0_2 x0_3 x0_4 x0_5 l0_6).1) + ((sumM x0_0 x0_1 x0_2 x0_3 x0_4 x0_5 l0_6 (1 : Int)).1))) + ((sumM x0_0 x0_1 x0_2 x0_3 x0_4 x0_5 l0_6 (2 : Int)).1))) + ((sumM x0_0 x0_1 x0_2 x0_3 x0_4 x0_5 l0_6 (3 : Int)).1))))))), (4, .v (.c (.k (I (IntKind.i64.wrap ((IntKind.i64.wrap ((IntKind.i64.wrap (((balM x0_0 x0_1 x0_2 x0_3 x0_4 x0_5 l0_6).2.1) + ((sumM x0_0 x0_1 x0_2 x0_3 x0_4 x0_5 l0_6 (1 : Int)).2.1))) + ((sumM x0_0 x0_1 x0_2 x0_3 x0_4 x0_5 l0_6 (2 : Int)).2.1))) + ((sumM x0_0 x0_1 x0_2 x0_3 x0_4 x0_5 l0_6 (3 : Int)).2.1))))))), (5, .v (.c (.k (I ((balM x0_0 x0_1 x0_2 x0_3 x0_4 x0_5 l0_6).2.2))))), (6, .v (.c (.k (I (4 : Int))))), (10, .v (.c (.k (.bool true)))), (11, .v (.c (.k (.bool false)))), (12, .v (.agg [.k (I x0_0), .k (I x0_1), .k (I x0_2), .k (I x0_3), .k (I x0_4), .k (I x0_5), .inp 1000 A0_6 l0_6.length c0_6])), (13, .v (.c (.k (.bool (spileref35_Few x0_0 x0_1 x0_2 x0_3 x0_4 x0_5 l0_6))))), (14, .v (.c (.k (.bool (!(spileref35_Few x0_0 x0_1 x0_2 x0_3 x0_4 x0_5 l0_6)))))), (16, .v (.agg [.k (I x0_0), .k (I x0_1), .k (I x0_2), .k (I x0_3), .k (I x0_4), .k (I x0_5), .inp 1000 A0_6 l0_6.length c0_6])), (19, .v (.c (.k (I ((balM x0_0 x0_1 x0_2 x0_3 x0_4 x0_5 l0_6).1))))), (20, .v (.c (.k (I ((balM x0_0 x0_1 x0_2 x0_3 x0_4 x0_5 l0_6).2.1))))), (21, .v (.c (.k (I ((balM x0_0 x0_1 x0_2 x0_3 x0_4 x0_5 l0_6).2.2))))), (22, .v (.c (.k (I ((balM x0_0 x0_1 x0_2 x0_3 x0_4 x0_5 l0_6).2.2))))), (23, .v (.c (.k (.bool (((balM x0_0 x0_1 x0_2 x0_3 x0_4 x0_5 l0_6).2.2) != (0 : Int))))))]) (ml := [(1, .var 24 [.k (I x0_0), .k (I x0_1), .k (I x0_2), .k (I x0_3), .k (I x0_4), .k (I x0_5), .inp 1000 A0_6 l0_6.length c0_6]), (1000, .ro 3 l0_6.length (elC l0_6))]) rfl ⟨⟨_, rfl, Blk.le_refl _⟩, ⟨_, rfl, Blk.le_refl _⟩, trivial⟩ ⟨rfl, rfl, rfl, rfl, rfl, rfl, rfl, rfl, rfl, rfl, rfl, rfl, rfl, rfl, rfl, rfl, rfl, rfl, trivial⟩) ?_
  refine GI.round ?_
  refine G.seq ?_
  refine G.seqR tfine rfl ?_ ?_
  · first | trivial | (simp [AllP, condB]; done) | (simp only [AllP]; and_intros <;> first | trivial | decide | omega) | (simp [AllP, condB]; intros; and_intros <;> first | assumption | omega) | (simp [AllP, condB]; intros; simp_all; done) | (simp [AllP, condB]; intros; simp_all; omega) | (simp [AllP, condB]; omega)
  refine G.cond_true rfl ?_
  refine G.skip ?_
  refine G.seq ?_
  refine G.block ?_
  refine G.seqC tfine rfl ?_ ?_
  · first | trivial | (simp [AllP, condB]; done) | (simp only [AllP]; and_intros <;> first | trivial | decide | omega) | (simp [AllP, condB]; intros; and_intros <;> first | assumption | omega) | (simp [AllP, condB]; intros; simp_all; done) | (simp [AllP, condB]; intros; simp_all; omega) | (simp [AllP, condB]; omega)
  refine GO.callTabP ([I x0_0, I x0_1, I x0_2, I x0_3, I x0_4, I x0_5], []) rfl rfl rfl rfl rfl rfl rfl (fun args w => Try.call13 args w) (fun ρ w hs hok => cp_any _ _ _ _ _ _ A0_6 c0_6 l0_6 w (hs.row (cap := c0_6) rfl (hok _ List.mem_cons_self _ (List.mem_cons_of_mem _ (List.mem_cons_of_mem _ (List.mem_cons_of_mem _ (List.mem_cons_of_mem _ (List.mem_cons_of_mem _ (List.mem_cons_of_mem _ List.mem_cons_self)))))))) hm_l0_6 hA_l0_6) (fun A36 k36 => ?_)
  refine GO.more tfine rfl ?_ ?_
  · first | trivial | (simp [AllP, condB]; done) | (simp only [AllP]; and_intros <;> first | trivial | decide | omega) | (simp [AllP, condB]; intros; and_intros <;> first | assumption | omega) | (simp [AllP, condB]; intros; simp_all; done) | (simp [AllP, condB]; intros; simp_all; omega) | (simp [AllP, condB]; omega)
  refine GO.callPlain (v := .tuple #[I ((sumM x0_0 x0_1 x0_2 x0_3 x0_4 x0_5 l0_6 (4 : Int)).1), I ((sumM x0_0 x0_1 x0_2 x0_3 x0_4 x0_5 l0_6 (4 : Int)).2.1), I ((sumM x0_0 x0_1 x0_2 x0_3 x0_4 x0_5 l0_6 (4 : Int)).2.2)])  rfl rfl rfl rfl (fun args w => Try.call19 args w) (fun ρ w hs hok => runSum_any _ _ _ _ _ _ A36 k36 l0_6 _ w (hs.row (cap := k36) rfl (hok _ List.mem_cons_self _ (List.mem_cons_of_mem _ (List.mem_cons_of_mem _ (List.mem_cons_of_mem _ (List.mem_cons_of_mem _ (List.mem_cons_of_mem _ (List.mem_cons_of_mem _ List.mem_cons_self)))))))) hm_l0_6) ?_
  refine GO.fin tfine rfl ?_ ?_
  · first | trivial | (simp [AllP, condB]; done) | (simp only [AllP]; and_intros <;> first | trivial | decide | omega) | (simp [AllP, condB]; intros; and_intros <;> first | assumption | omega) | (simp [AllP, condB]; intros; simp_all; done) | (simp [AllP, condB]; intros; simp_all; omega) | (simp [AllP, condB]; omega)
  refine G.seq ?_
  refine G.seqR tfine rfl ?_ ?_
  · first | trivial | (simp [AllP, condB]; done) | (simp only [AllP]; and_intros <;> first | trivial | decide | omega) | (simp [AllP, condB]; intros; and_intros <;> first | assumption | omega) | (simp [AllP, condB]; intros; simp_all; done) | (simp [AllP, condB]; intros; simp_all; omega) | (simp [AllP, condB]; omega)
  refine G.cond (b := ((((sumM x0_0 x0_1 x0_2 x0_3 x0_4 x0_5 l0_6 (4 : Int)).2.2) != (0 : Int)) || (decide (((sumM x0_0 x0_1 x0_2 x0_3 x0_4 x0_5 l0_6 (4 : Int)).1) < (0 : Int)))) || (decide (((sumM x0_0 x0_1 x0_2 x0_3 x0_4 x0_5 l0_6 (4 : Int)).2.1) < (0 : Int)))) rfl (fun h6 => ?_) (fun h6 => ?_)
  · refine G.seqR tfine rfl ?_ ?_
    · first | trivial | (simp [AllP, condB]; done) | (simp only [AllP]; and_intros <;> first | trivial | decide | omega) | (simp [AllP, condB]; intros; and_intros <;> first | assumption | omega) | (simp [AllP, condB]; intros; simp_all; done) | (simp [AllP, condB]; intros; simp_all; omega) | (simp [AllP, condB]; omega)
    refine G.ret (endK.ret rfl ?_)
    first | (rw [spilelaw35_RunCloses, if_neg (fne h1), if_neg (fne h2), if_neg (fne h3), if_neg (fne h4), if_neg (fne h5), if_pos h6]; done) | (rw [spilelaw35_RunCloses, if_neg (fne h1), if_neg (fne h2), if_neg (fne h3), if_neg (fne h4), if_neg (fne h5), if_pos h6]; rfl)
  refine G.skip ?_
  refine G.reg tfine rfl ?_ ?_
  · first | trivial | (simp [AllP, condB]; done) | (simp only [AllP]; and_intros <;> first | trivial | decide | omega) | (simp [AllP, condB]; intros; and_intros <;> first | assumption | omega) | (simp [AllP, condB]; intros; simp_all; done) | (simp [AllP, condB]; intros; simp_all; omega) | (simp [AllP, condB]; omega)
  refine G.reg tfine rfl ?_ ?_
  · first | trivial | (simp [AllP, condB]; done) | (simp only [AllP]; and_intros <;> first | trivial | decide | omega) | (simp [AllP, condB]; intros; and_intros <;> first | assumption | omega) | (simp [AllP, condB]; intros; simp_all; done) | (simp [AllP, condB]; intros; simp_all; omega) | (simp [AllP, condB]; omega)
  refine GI.weaken (St.le_of (tl := [(0, .v (.agg [.k (I x0_0), .k (I x0_1), .k (I x0_2), .k (I x0_3), .k (I x0_4), .k (I x0_5), .inp 1000 A0_6 l0_6.length c0_6])), (1, .v (.c (.ptr 1 0 0 0))), (2, .v (.c (.k (.bool false)))), (3, .v (.c (.k (I (IntKind.i64.wrap ((IntKind.i64.wrap ((IntKind.i64.wrap ((IntKind.i64.wrap (((balM x0_0 x0_1 x0_2 x0_3 x0_4 x0_5 l0_6).1) + ((sumM x0_0 x0_1 x0_2 x0_3 x0_4 x0_5 l0_6 (1 : Int)).1))) + ((sumM x0_0 x0_1 x0_2 x0_3 x0_4 x0_5 l0_6 (2 : Int)).1))) + ((sumM x0_0 x0_1 x0_2 x0_3 x0_4 x0_5 l0_6 (3 : Int)).1))) + ((sumM x0_0 x0_1 x0_2 x0_3 x0_4 x0_5 l0_6 (4 : Int)).1))))))), (4, .v (.c (.k (I (IntKind.i64.wrap ((IntKind.i64.wrap ((IntKind.i64.wrap ((IntKind.i64.wrap (((balM x0_0 x0_1 x0_2 x0_3 x0_4 x0_5 l0_6).2.1) + ((sumM x0_0 x0_1 x0_2 x0_3 x0_4 x0_5 l0_6 (1 : Int)).2.1))) + ((sumM x0_0 x0_1 x0_2 x0_3 x0_4 x0_5 l0_6 (2 : Int)).2.1))) + ((sumM x0_0 x0_1 x0_2 x0_3 x0_4 x0_5 l0_6 (3 : Int)).2.1))) + ((sumM x0_0 x0_1 x0_2 x0_3 x0_4 x0_5 l0_6 (4 : Int)).2.1))))))), (5, .v (.c (.k (I ((balM x0_0 x0_1 x0_2 x0_3 x0_4 x0_5 l0_6).2.2))))), (6, .v (.c (.k (I (5 : Int))))), (10, .v (.c (.k (.bool true)))), (11, .v (.c (.k (.bool false)))), (12, .v (.agg [.k (I x0_0), .k (I x0_1), .k (I x0_2), .k (I x0_3), .k (I x0_4), .k (I x0_5), .inp 1000 A0_6 l0_6.length c0_6])), (13, .v (.c (.k (.bool (spileref35_Few x0_0 x0_1 x0_2 x0_3 x0_4 x0_5 l0_6))))), (14, .v (.c (.k (.bool (!(spileref35_Few x0_0 x0_1 x0_2 x0_3 x0_4 x0_5 l0_6)))))), (16, .v (.agg [.k (I x0_0), .k (I x0_1), .k (I x0_2), .k (I x0_3), .k (I x0_4), .k (I x0_5), .inp 1000 A0_6 l0_6.length c0_6])), (19, .v (.c (.k (I ((balM x0_0 x0_1 x0_2 x0_3 x0_4 x0_5 l0_6).1))))), (20, .v (.c (.k (I ((balM x0_0 x0_1 x0_2 x0_3 x0_4 x0_5 l0_6).2.1))))), (21, .v (.c (.k (I ((balM x0_0 x0_1 x0_2 x0_3 x0_4 x0_5 l0_6).2.2))))), (22, .v (.c (.k (I ((balM x0_0 x0_1 x0_2 x0_3 x0_4 x0_5 l0_6).2.2))))), (23, .v (.c (.k (.bool (((balM x0_0 x0_1 x0_2 x0_3 x0_4 x0_5 l0_6).2.2) != (0 : Int))))))]) (ml := [(1, .var 24 [.k (I x0_0), .k (I x0_1), .k (I x0_2), .k (I x0_3), .k (I x0_4), .k (I x0_5), .inp 1000 A0_6 l0_6.length c0_6]), (1000, .ro 3 l0_6.length (elC l0_6))]) rfl ⟨⟨_, rfl, Blk.le_refl _⟩, ⟨_, rfl, Blk.le_refl _⟩, trivial⟩ ⟨rfl, rfl, rfl, rfl, rfl, rfl, rfl, rfl, rfl, rfl, rfl, rfl, rfl, rfl, rfl, rfl, rfl, rfl, trivial⟩) ?_
  refine GI.round ?_
  refine G.seq ?_
  refine G.seqR tfine rfl ?_ ?_
  · first | trivial | (simp [AllP, condB]; done) | (simp only [AllP]; and_intros <;> first | trivial | decide | omega) | (simp [AllP, condB]; intros; and_intros <;> first | assumption | omega) | (simp [AllP, condB]; intros; simp_all; done) | (simp [AllP, condB]; intros; simp_all; omega) | (simp [AllP, condB]; omega)
  refine G.cond_false rfl ?_
  refine G.exit ?_
  refine G.seqR tfine rfl ?_ ?_
  · first | trivial | (simp [AllP, condB]; done) | (simp only [AllP]; and_intros <;> first | trivial | decide | omega) | (simp [AllP, condB]; intros; and_intros <;> first | assumption | omega) | (simp [AllP, condB]; intros; simp_all; done) | (simp [AllP, condB]; intros; simp_all; omega) | (simp [AllP, condB]; omega)
  refine G.ret (endK.ret rfl ?_)
  first | (rw [spilelaw35_RunCloses, if_neg (fne h1), if_neg (fne h2), if_neg (fne h3), if_neg (fne h4), if_neg (fne h5), if_neg (fne h6)]; done) | (rw [spilelaw35_RunCloses, if_neg (fne h1), if_neg (fne h2), if_neg (fne h3), if_neg (fne h4), if_neg (fne h5), if_neg (fne h6)]; rfl)
end Go.Proofs.Ytmdgaifonpgojaa
/- Openers of arguments for the rows: arrays of two and of three whole numbers. -/
set_option linter.unusedVariables false
set_option linter.unusedSimpArgs false
namespace Go.Sx
open Go.ChangeShapes Go.WideShapes Go.WideMaps
section
variable {H : Type} {enc : TypeId × Value → H} {P : Program} {k e : TypeId} {q : IntKind} {W : World} {base : Nat} {sp : Nat → Bool} {held : Bool}
theorem open_arr2 (A : ArrKey P k e 2) (he : P.underlying e = some (.int q)) {r : Reach} {b0 : Nat} {v : Value} {d : DataW H} {ps : List MemPlace} (hval : Value.okWide P W r b0 k v) (hd : DataW.Trod enc P W base sp held k v d ps) :
    ∃ a b : Int, v = .agg #[.int q a, .int q b] ∧ d = .agg [.lit (.int q a), .lit (.int q b)] ∧ ps = [] ∧ (Lit.int q a).wf = true ∧ (Lit.int q b).wf = true := open_pair A he hval hd
theorem shut_arr2 (A : ArrKey P k e 2) (he : P.underlying e = some (.int q)) {a b : Int} (wa : (Lit.int q a).wf = true) (wb : (Lit.int q b).wf = true) :
    DataW.Trod enc P W base sp held k (.agg #[.int q a, .int q b]) (.agg [.lit (.int q a), .lit (.int q b)]) [] := shut_pair A he wa wb
theorem okWide_three (A : ArrKey P k e 3) {r : Reach} {b0 : Nat} {v : Value} (h : Value.okWide P W r b0 k v) : ∃ c0 c1 c2, v = .agg #[c0, c1, c2] := by
  simp only [Value.okWide, A.hu] at h
  obtain ⟨cs, h1, h2, _⟩ := h
  rw [A.size] at h2
  obtain ⟨l⟩ := cs
  match l, h2 with
  | [c0, c1, c2], _ => exact ⟨c0, c1, c2, h1⟩
theorem open_arr3 (A : ArrKey P k e 3) (he : P.underlying e = some (.int q)) {r : Reach} {b0 : Nat} {v : Value} {d : DataW H} {ps : List MemPlace} (hval : Value.okWide P W r b0 k v) (hd : DataW.Trod enc P W base sp held k v d ps) :
    ∃ a b c : Int, v = .agg #[.int q a, .int q b, .int q c] ∧ d = .agg [.lit (.int q a), .lit (.int q b), .lit (.int q c)] ∧ ps = [] ∧ (Lit.int q a).wf = true ∧ (Lit.int q b).wf = true ∧ (Lit.int q c).wf = true := by
  obtain ⟨c0, c1, c2, rfl⟩ := okWide_three A hval
  obtain ⟨fuel, hf⟩ := hd
  cases fuel with
  | zero => simp [DataW.trod] at hf
  | succ n =>
    rw [DataW.trod_step] at hf
    unfold DataW.trodStep at hf
    simp only [A.hu, Value.cells] at hf
    rw [if_pos (by rw [A.size]; rfl)] at hf
    simp only [Option.map_eq_some_iff] at hf
    obtain ⟨xs, hx, e1⟩ := hf
    rw [show List.range 3 = [0, 1, 2] from rfl, List.mapM_cons, List.mapM_cons, List.mapM_cons, List.mapM_nil] at hx
    simp only [bind, Option.bind_eq_some_iff, pure, Option.some.injEq, A.one] at hx
    obtain ⟨y0, h0, _, ⟨y1, h1, _, ⟨y2, h2, _, rfl, rfl⟩, rfl⟩, rfl⟩ := hx
    obtain ⟨a, ea, rfl, wa⟩ := DataW.trod_int he h0
    obtain ⟨b, eb, rfl, wb⟩ := DataW.trod_int he h1
    obtain ⟨c, ec, rfl, wc⟩ := DataW.trod_int he h2
    simp at ea eb ec
    subst ea; subst eb; subst ec
    simp only [Prod.mk.injEq] at e1
    exact ⟨a, b, c, rfl, by rw [← e1.1]; rfl, by rw [← e1.2]; rfl, wa, wb, wc⟩
theorem shut_arr3 (A : ArrKey P k e 3) (he : P.underlying e = some (.int q)) {a b c : Int} (wa : (Lit.int q a).wf = true) (wb : (Lit.int q b).wf = true) (wc : (Lit.int q c).wf = true) :
    DataW.Trod enc P W base sp held k (.agg #[.int q a, .int q b, .int q c]) (.agg [.lit (.int q a), .lit (.int q b), .lit (.int q c)]) [] :=
  ⟨2, by
    show DataW.trod enc P W base sp held (1 + 1) k [.int q a, .int q b, .int q c] = _
    rw [DataW.trod_step]
    unfold DataW.trodStep
    simp only [A.hu]
    rw [if_pos (by rw [A.size]; rfl), show List.range 3 = [0, 1, 2] from rfl, List.mapM_cons, List.mapM_cons, List.mapM_cons, List.mapM_nil]
    simp [A.one, DataW.trod, he, wa, wb, wc]⟩
end
open Go.RowKit
/-- What the seat's rows tell of a slice of whole numbers, as the executor takes it. -/
theorem rowI {k : IntKind} {w : World} {a : Option Addr} {len cap : Nat} {zs : List Int} (h : (a = none ∧ len = 0 ∧ cap = 0 ∧ zs = []) ∨ ∃ x, a = some x ∧ len ≤ cap ∧ cap ≤ maxLen ∧ zs.length = cap ∧ (∀ i, i < zs.length → w.cell? (x.add i) = some (.int k (zs.getD i 0))) ∧ ∀ n ∈ zs, (Lit.int k n).wf = true) :
    ∃ l : List Int, len = l.length ∧ RdRow w a l.length 1 (fun i => [.int k (l.getD i 0)]) ∧ l.length ≤ maxLen ∧ (∀ n ∈ l, (Lit.int k n).wf = true) ∧ (a = none → l.length = 0) := by
  rcases h with ⟨rfl, rfl, rfl, rfl⟩ | ⟨x, rfl, h1, h2, h3, h4, h5⟩
  · exact ⟨[], rfl, RdRow.nil _ _ _ _, by simp, by simp, fun _ => rfl⟩
  · have hl : (zs.take len).length = len := by simp; omega
    refine ⟨zs.take len, hl.symm, ?_, by omega, fun n hn => h5 n (List.mem_of_mem_take hn), fun h => by cases h⟩
    intro h0
    have hspot : x.spot = none := by
      have := h4 0 (by omega)
      rw [show x.add 0 = x from rfl] at this
      unfold World.cell? at this
      split at this
      · split at this
        · cases this
        · rename_i hn
          cases hs : x.spot with
          | none => rfl
          | some _ => rw [hs] at hn; exact absurd rfl hn
      · cases this
    obtain ⟨b, o, sp⟩ := x
    simp only at hspot
    subst hspot
    refine ⟨b, o, rfl, ?_, fun i hi => ⟨rfl, fun j hj => ?_⟩⟩
    · have := h4 0 (by omega)
      rw [show (⟨b, o, none⟩ : Addr).add 0 = ⟨b, o, none⟩ from rfl] at this
      unfold World.cell? at this
      split at this
      · rename_i hh
        exact (Array.getElem?_eq_some_iff.1 hh).1
      · cases this
    · have hj : j = 0 := by omega
      subst hj
      have := h4 i (by omega)
      rw [Addr.add_lit] at this
      rw [show o + (i * 1 + 0) = o + i by omega, this]
      have hi' : i < len := by omega
      simp [List.getD_eq_getElem?_getD, hi']
end Go.Sx
