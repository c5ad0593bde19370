/- The symbolic executor, part B: what code does to states (G), the rules for control, loops by an invariant, the entry into a function, its results. Generic over P. -/
import Derived.Test.YtiicemgngccicaaSxA
set_option linter.unusedVariables false
set_option linter.unusedSimpArgs false
namespace Go.Sx
open Go.RowKit

def ofVal : Value → TV
  | .agg cs => .v (.agg (cs.toList.map AC.k))
  | .tuple _ => .unk
  | .bool b => .v (.c (.k (.bool b)))
  | .int k n => .v (.c (.k (.int k n)))
  | .slice a n c => .v (.c (.k (.slice a n c)))
  | .string s => .v (.c (.k (.string s)))
  | v => .v (.c (.k v))
theorem map_conc_k (ρ : Val) (l : List Value) : (l.map AC.k).map (AC.conc ρ) = l := by
  rw [List.map_map]
  exact (List.map_congr_left fun _ _ => rfl).trans (List.map_id l)
theorem ofVal_rep (ρ : Val) (m : Nat → Option Blk) (v : Value) : (ofVal v).rep ρ m v := by
  cases v <;> first
    | exact ⟨trivial, rfl⟩
    | trivial
    | (rename_i cs
       refine ⟨fun a ha => ?_, ?_⟩
       · obtain ⟨v, _, rfl⟩ := List.mem_map.1 ha; trivial
       · simp only [AV.conc, map_conc_k])

def evT (t : Nat → TV) : Operand → TV
  | .tmp j => t j
  | .const v => ofVal v
  | .func f => .v (.c (.k (.func (.func f) #[] #[])))
  | .global g => .v (.c (.k (.pointer (some ⟨g, 0, none⟩))))
def St.ev (st : St) : Operand → TV := evT st.t
theorem Sat.eval {E : Env} {ρ : Val} {st : St} {a : Act} {w : World} (h : Sat E ρ st a w) (x : Operand) : (st.ev x).rep ρ st.m (a.eval x) := by
  cases x with
  | tmp t => exact h.tm t
  | const v => exact ofVal_rep ρ st.m v
  | global g => exact ⟨trivial, rfl⟩
  | func f => exact ⟨trivial, rfl⟩

def QK (E : Env) (K : Exit → St → Prop) : Exit → Act → World → Prop := fun e a w => ∃ ρ st, Sat E ρ st a w ∧ K e st
/-- From each frame and memory that the state describes, the code ends in some exit with a state of which K holds. -/
def G (P : Program) (E : Env) (K : Exit → St → Prop) (c : Code) (st : St) : Prop := ∀ ρ a w, Sat E ρ st a w → c.wp P (QK E K) a w
/-- Operations that are left of a region. -/
def GO (P : Program) (E : Env) (ops : Array Oper) (K : Exit → St → Prop) (rest : List Oper) (st : St) : Prop :=
  ∀ ρ a w, Sat E ρ st a w → wpList P ops (QK E K) rest a w

def thenK (next : St → Prop) (K : Exit → St → Prop) : Exit → St → Prop
  | .normal, st => next st
  | e, st => K e st
def blockK (id : Nat) (K : Exit → St → Prop) : Exit → St → Prop
  | .exit id', st => bif Nat.beq id' id then K .normal st else K (.exit id') st
  | e, st => K e st

section
variable {P : Program} {E : Env} {K : Exit → St → Prop} {st : St}

theorem G.seq {x y : Code} (h : G P E (thenK (G P E K y) K) x st) : G P E K (.seq x y) st := by
  intro ρ a w hs
  refine wp_seq (wp_mono (h ρ a w hs) ?_)
  rintro e a' w' ⟨ρ', st', hs', hk⟩
  cases e <;> first
    | exact hk ρ' a' w' hs'
    | exact ⟨ρ', st', hs', hk⟩
theorem G.block {id : Nat} {c : Code} (h : G P E (blockK id K) c st) : G P E K (.block id c) st := by
  intro ρ a w hs
  refine wp_block (wp_mono (h ρ a w hs) ?_)
  rintro e a' w' ⟨ρ', st', hs', hk⟩
  cases e with
  | exit id' =>
    simp only [blockK] at hk
    show if id' = id then _ else _
    by_cases e : id' = id
    · subst e
      simp only [Nat.beq_refl, cond_true] at hk
      rw [if_pos rfl]
      exact ⟨ρ', st', hs', hk⟩
    · have : Nat.beq id' id = false := by
        cases hb : Nat.beq id' id with
        | false => rfl
        | true => exact absurd (Nat.eq_of_beq_eq_true hb) e
      simp only [this, cond_false] at hk
      rw [if_neg e]
      exact ⟨ρ', st', hs', hk⟩
  | _ => exact ⟨ρ', st', hs', hk⟩
theorem G.exit {id : Nat} (h : K (.exit id) st) : G P E K (.exit id) st := fun ρ a w hs => wp_exit ⟨ρ, st, hs, h⟩
theorem G.skip (h : K .normal st) : G P E K .skip st := fun ρ a w hs => wp_skip ⟨ρ, st, hs, h⟩
theorem G.ret (h : K .ret st) : G P E K .ret st := fun ρ a w hs => wp_ret ⟨ρ, st, hs, h⟩
theorem G.cond {c : Operand} {x y : Code} {b : Bool} (hc : st.ev c = .v (.c (.k (.bool b)))) (ht : b = true → G P E K x st) (hf : b = false → G P E K y st) : G P E K (.cond c x y) st := by
  intro ρ a w hs
  have he := hs.eval c
  rw [hc] at he
  refine wp_cond_split (t := b) he.2 (fun h => ht h ρ a w hs) (fun h => hf h ρ a w hs)
theorem G.cond_true {c : Operand} {x y : Code} (hc : st.ev c = .v (.c (.k (.bool true)))) (h : G P E K x st) : G P E K (.cond c x y) st := G.cond hc (fun _ => h) (fun h => nomatch h)
theorem G.cond_false {c : Operand} {x y : Code} (hc : st.ev c = .v (.c (.k (.bool false)))) (h : G P E K y st) : G P E K (.cond c x y) st := G.cond hc (fun h => nomatch h) (fun _ => h)
theorem G.region {id : Nat} {ops : Array Oper} (h : GO P E ops K ops.toList st) : G P E K (.region id ops false) st :=
  fun ρ a w hs => wp_region_list (h ρ a w hs)
theorem G.region_lit {id : Nat} {l : List Oper} (h : GO P E l.toArray K l st) : G P E K (.region id l.toArray false) st :=
  fun ρ a w hs => wp_region_lit (h ρ a w hs)
theorem GO.nil {ops : Array Oper} (h : K .normal st) : GO P E ops K [] st := fun ρ a w hs => wpList_nil ⟨ρ, st, hs, h⟩
theorem G.mono {K' : Exit → St → Prop} {c : Code} (h : G P E K c st) (hk : ∀ e st, K e st → K' e st) : G P E K' c st :=
  fun ρ a w hs => wp_mono (h ρ a w hs) fun e a' w' ⟨ρ', st', hs', k⟩ => ⟨ρ', st', hs', hk _ _ k⟩

/-- What the one state says, the other says too. -/
def St.le (E : Env) (st' st : St) : Prop := ∀ ρ a w, Sat E ρ st a w → Sat E ρ st' a w
theorem St.le_refl (E : Env) (st : St) : St.le E st st := fun _ _ _ h => h
theorem G.weaken {st' : St} {c : Code} (hl : St.le E st' st) (h : G P E K c st') : G P E K c st := fun ρ a w hs => h ρ a w (hl ρ a w hs)
theorem GO.weaken {ops : Array Oper} {rest : List Oper} {st' : St} (hl : St.le E st' st) (h : GO P E ops K rest st') : GO P E ops K rest st := fun ρ a w hs => h ρ a w (hl ρ a w hs)

def loopK {α : Type} (E : Env) (I : α → St) (pre : α → Prop) (μ : α → Nat) (x : α) (K : Exit → St → Prop) : Exit → St → Prop
  | .normal, st' => ∃ x', pre x' ∧ μ x' < μ x ∧ St.le E (I x') st'
  | e, st' => K e st'
theorem G.loop {α : Type} (I : α → St) (pre : α → Prop) (μ : α → Nat) (x0 : α) {c : Code} (h0 : pre x0) (hl : St.le E (I x0) st)
    (round : ∀ x, pre x → G P E (loopK E I pre μ x K) c (I x)) : G P E K (.loop c) st := by
  intro ρ a w hs b k cs
  have key : ∀ n x, μ x = n → pre x → ∀ ρ a w, Sat E ρ (I x) a w → ∃ e a' w', QK E K e a' w' ∧ Arrives P (lone (b.at a (.code c :: .inLoop c :: k)) cs w) b k cs e a' w' := by
    intro n
    induction n using Nat.strongRecOn with
    | _ n ih =>
      intro x hn hx ρ a w hs
      obtain ⟨e, a1, w1, ⟨ρ1, st1, hs1, hk1⟩, harr⟩ := round x hx ρ a w hs b (.inLoop c :: k) cs
      cases e with
      | normal =>
        obtain ⟨x', hx', hlt, hle⟩ := hk1
        obtain ⟨e2, a2, w2, hq2, harr2⟩ := ih (μ x') (hn ▸ hlt) x' rfl hx' ρ1 a1 w1 (hle _ _ _ hs1)
        exact ⟨e2, a2, w2, hq2, .of_steps (Steps.trans harr (.one step_inLoop)) harr2⟩
      | exit id => exact ⟨_, a1, w1, ⟨ρ1, st1, hs1, hk1⟩, .pass (x := .inLoop c) rfl (fun _ _ => .inl (by simp)) harr⟩
      | goto l => exact ⟨_, a1, w1, ⟨ρ1, st1, hs1, hk1⟩, .pass (x := .inLoop c) rfl (fun _ _ => .inl (by simp)) harr⟩
      | ret => exact ⟨_, a1, w1, ⟨ρ1, st1, hs1, hk1⟩, .pass (x := .inLoop c) rfl (fun _ _ => .inl (by simp)) harr⟩
      | panic ch => exact ⟨_, a1, w1, ⟨ρ1, st1, hs1, hk1⟩, .pass (x := .inLoop c) rfl (fun _ _ => .inl (by simp)) harr⟩
      | outgrown => exact ⟨_, a1, w1, ⟨ρ1, st1, hs1, hk1⟩, .pass (x := .inLoop c) rfl (fun _ _ => .inl (by simp)) harr⟩
  obtain ⟨e, a', w', hq, harr⟩ := key _ x0 rfl h0 ρ a w (hl ρ a w hs)
  exact ⟨e, a', w', hq, .of_steps (.one step_loop) harr⟩

/-! ### States by lists -/
def lkT : List (Nat × TV) → Nat → TV
  | [], _ => .unk
  | p :: r, j => bif Nat.beq j p.1 then p.2 else lkT r j
def lkM : List (Nat × Blk) → Nat → Option Blk
  | [], _ => none
  | p :: r, j => bif Nat.beq j p.1 then some p.2 else lkM r j
def St.of (tl : List (Nat × TV)) (ml : List (Nat × Blk)) : St := ⟨lkT tl, lkM ml⟩
theorem lkT_mem {tl : List (Nat × TV)} {j : Nat} : lkT tl j = .unk ∨ ∃ p ∈ tl, p.1 = j ∧ lkT tl j = p.2 := by
  induction tl with
  | nil => exact .inl rfl
  | cons p r ih =>
    cases hb : Nat.beq j p.1 with
    | true => exact .inr ⟨p, by simp, (Nat.eq_of_beq_eq_true hb).symm, by simp [lkT, hb]⟩
    | false =>
      have e : lkT (p :: r) j = lkT r j := by simp [lkT, hb]
      rw [e]
      rcases ih with h | ⟨q, hq, h1, h2⟩
      · exact .inl h
      · exact .inr ⟨q, by simp [hq], h1, h2⟩
theorem lkM_mem {ml : List (Nat × Blk)} {j : Nat} : lkM ml j = none ∨ ∃ p ∈ ml, p.1 = j ∧ lkM ml j = some p.2 := by
  induction ml with
  | nil => exact .inl rfl
  | cons p r ih =>
    cases hb : Nat.beq j p.1 with
    | true => exact .inr ⟨p, by simp, (Nat.eq_of_beq_eq_true hb).symm, by simp [lkM, hb]⟩
    | false =>
      have e : lkM (p :: r) j = lkM r j := by simp [lkM, hb]
      rw [e]
      rcases ih with h | ⟨q, hq, h1, h2⟩
      · exact .inl h
      · exact .inr ⟨q, by simp [hq], h1, h2⟩

def Cap.inn (s : Nat → Bool) : Cap → Bool
  | .own x _ => s x
  | .val _ => true
def AC.inn (s : Nat → Bool) : AC → Bool
  | .k _ => true
  | .ptr x .. | .slc x .. | .inp x .. => s x
  | .fn _ caps => caps.all (Cap.inn s)
def AV.inn (s : Nat → Bool) : AV → Bool
  | .c a => a.inn s
  | .agg l => l.all (AC.inn s)
def TV.inn (s : Nat → Bool) : TV → Bool
  | .unk => true
  | .v a | .grd _ _ _ a => a.inn s
  | .tup l => l.all (AV.inn s)
def Blk.inn (s : Nat → Bool) : Blk → Bool
  | .var _ cells => cells.all (AC.inn s)
  | _ => true
theorem Cap.ok_inn {s : Nat → Bool} {m m' : Nat → Option Blk} (hs : ∀ x, s x = true → (m' x).isSome = true) {c : Cap} (h : c.inn s = true) : c.ok m' := by
  cases c with
  | own x off => exact hs x h
  | val v => trivial
theorem AC.ok_inn {s : Nat → Bool} {ρ : Val} {m m' : Nat → Option Blk} (hs : ∀ x, s x = true → (m' x).isSome = true) {c : AC} (h : c.inn s = true) (ho : c.ok ρ m) : c.ok ρ m' := by
  cases c with
  | k v => trivial
  | ptr x i sz off => exact hs x h
  | slc x i sz len cap => exact hs x h
  | inp x A len cap => exact ⟨hs x h, ho.2⟩
  | fn f caps => exact fun c hc => Cap.ok_inn (m := m) hs (List.all_eq_true.1 h c hc)
theorem AV.ok_inn {s : Nat → Bool} {ρ : Val} {m m' : Nat → Option Blk} (hs : ∀ x, s x = true → (m' x).isSome = true) {c : AV} (h : c.inn s = true) (ho : c.ok ρ m) : c.ok ρ m' := by
  cases c with
  | c a => exact AC.ok_inn hs h ho
  | agg l => exact fun a ha => AC.ok_inn hs (List.all_eq_true.1 h a ha) (ho a ha)
theorem TV.rep_inn {s : Nat → Bool} {ρ : Val} {m m' : Nat → Option Blk} (hs : ∀ x, s x = true → (m' x).isSome = true) {t : TV} {x : Value} (h : t.inn s = true) (ho : t.rep ρ m x) : t.rep ρ m' x := by
  cases t with
  | unk => trivial
  | v a => exact ⟨AV.ok_inn hs h ho.1, ho.2⟩
  | tup l => exact ⟨fun a ha => AV.ok_inn hs (List.all_eq_true.1 h a ha) (ho.1 a ha), ho.2⟩
  | grd j wt b a => exact ⟨fun hb => ⟨AV.ok_inn hs h (ho.1 hb).1, (ho.1 hb).2⟩, ho.2⟩

/-- A block that says less. -/
def Blk.le : Blk → Blk → Prop
  | .arr ty sz n el room, .arr ty' sz' n' el' room' => ty = ty' ∧ sz = sz' ∧ n ≤ n' ∧ (∀ i, i < n → el i = el' i) ∧ n * sz + room ≤ n' * sz' + room'
  | b, b' => b = b'
theorem Blk.le_refl (b : Blk) : b.le b := by cases b <;> first | rfl | exact ⟨rfl, rfl, Nat.le_refl _, fun _ _ => rfl, Nat.le_refl _⟩
theorem Blk.le_own {b b' : Blk} (h : b.le b') : b.own ↔ b'.own := by
  cases b with
  | arr ty sz n el room =>
    cases b' with
    | arr => exact Iff.rfl
    | _ => cases h
  | _ => rw [show _ = b' from h]
theorem Blk.le_live {b b' : Blk} (h : b.le b') : b.live ↔ b'.live := by
  cases b with
  | arr ty sz n el room =>
    cases b' with
    | arr => exact Iff.rfl
    | _ => cases h
  | _ => rw [show _ = b' from h]

def allT (tl : List (Nat × TV)) (t : Nat → TV) : Prop := match tl with
  | [] => True
  | p :: r => t p.1 = p.2 ∧ allT r t
def allM (ml : List (Nat × Blk)) (m : Nat → Option Blk) : Prop := match ml with
  | [] => True
  | p :: r => (∃ b, m p.1 = some b ∧ p.2.le b) ∧ allM r m
theorem allT_mem {tl : List (Nat × TV)} {t : Nat → TV} (h : allT tl t) : ∀ p ∈ tl, t p.1 = p.2 := by
  induction tl with
  | nil => intro p hp; cases hp
  | cons q r ih =>
    intro p hp
    cases hp with
    | head => exact h.1
    | tail _ hp => exact ih h.2 p hp
theorem allM_mem {ml : List (Nat × Blk)} {m : Nat → Option Blk} (h : allM ml m) : ∀ p ∈ ml, ∃ b, m p.1 = some b ∧ p.2.le b := by
  induction ml with
  | nil => intro p hp; cases hp
  | cons q r ih =>
    intro p hp
    cases hp with
    | head => exact h.1
    | tail _ hp => exact ih h.2 p hp
def innM (ml : List (Nat × Blk)) (x : Nat) : Bool := match ml with
  | [] => false
  | p :: r => Nat.beq x p.1 || innM r x
theorem innM_isSome {ml : List (Nat × Blk)} {x : Nat} (h : innM ml x = true) : (lkM ml x).isSome = true := by
  induction ml with
  | nil => cases h
  | cons p r ih =>
    cases hb : Nat.beq x p.1 with
    | true => simp [lkM, hb]
    | false =>
      simp only [innM, hb, Bool.false_or] at h
      simp only [lkM, hb, cond_false]
      exact ih h
def innAll (tl : List (Nat × TV)) (ml : List (Nat × Blk)) : Bool := tl.all (fun p => p.2.inn (innM ml)) && ml.all (fun p => p.2.inn (innM ml))

theorem St.le_of {st : St} {tl : List (Nat × TV)} {ml : List (Nat × Blk)} (hi : innAll tl ml = true) (hm : allM ml st.m) (ht : allT tl st.t) : St.le E (St.of tl ml) st := by
  intro ρ a w hs
  simp only [innAll, Bool.and_eq_true, List.all_eq_true] at hi
  have hsome : ∀ x, innM ml x = true → (lkM ml x).isSome = true := fun x h => innM_isSome h
  refine ⟨⟨hs.mem.fr, hs.mem.bo, fun x b hx => ?_, fun x y b c hx hy hb hc hne => ?_⟩, hs.df, hs.sz, fun j => ?_⟩
  · rcases lkM_mem (ml := ml) (j := x) with h | ⟨p, hp, rfl, h2⟩
    · exact absurd (h.symm.trans hx) (by simp)
    · have hxb : p.2 = b := by
        have := h2.symm.trans hx
        injection this
      subst hxb
      obtain ⟨b, hb, hle⟩ := allM_mem hm p hp
      have hk := hs.mem.ok _ b hb
      have hin := hi.2 p hp
      revert hle hin hk
      generalize p.2 = b'
      intro hle hk hin
      cases b' with
      | var ty cells =>
        obtain rfl : Blk.var ty cells = b := hle
        exact ⟨hk.1, hk.2.1, hk.2.2.1, fun c hc => AC.ok_inn hsome (List.all_eq_true.1 hin c hc) (hk.2.2.2 c hc)⟩
      | ro sz n el =>
        obtain rfl : Blk.ro sz n el = b := hle
        exact hk
      | arr ty sz n el room =>
        cases b with
        | arr ty' sz' n' el' room' =>
          obtain ⟨rfl, rfl, hn, he, hr⟩ := hle
          obtain ⟨h1, h2, a, ha, hsz, hel⟩ := hk
          exact ⟨h1, h2, a, ha, by omega, fun i hi => by rw [he i hi]; exact hel i (by omega)⟩
        | _ => cases hle
  · rcases lkM_mem (ml := ml) (j := x) with h | ⟨p, hp, rfl, h2⟩
    · exact absurd (h.symm.trans hx) (by simp)
    rcases lkM_mem (ml := ml) (j := y) with h | ⟨q, hq, rfl, h3⟩
    · exact absurd (h.symm.trans hy) (by simp)
    obtain ⟨b1, hb1, hle1⟩ := allM_mem hm p hp
    obtain ⟨c1, hc1, hle2⟩ := allM_mem hm q hq
    have e1 : p.2 = b := by have := h2.symm.trans hx; injection this
    have e2 : q.2 = c := by have := h3.symm.trans hy; injection this
    exact hs.mem.ne _ _ b1 c1 hb1 hc1 ((Blk.le_own hle1).1 (e1 ▸ hb)) ((Blk.le_live hle2).1 (e2 ▸ hc)) hne
  · show (lkT tl j).rep ρ (lkM ml) _
    rcases lkT_mem (tl := tl) (j := j) with h | ⟨p, hp, rfl, h2⟩
    · rw [h]; trivial
    · rw [h2]
      have := hs.tm p.1
      rw [allT_mem ht p hp] at this
      exact TV.rep_inn hsome (hi.1 p hp) this

/-! ### Entry and results -/
def retK (P : Program) (E : Env) (fn : Func) (R : Ending → World → Prop) : Exit → St → Prop := fun e st =>
  (e = .ret ∨ e = .normal) ∧ ∀ ρ a w', Sat E ρ st a w' → ∃ v, (results fn a.tmps).run P w' = .ok v w' ∧ R (.returned v) w'
theorem enter {f : FuncId} {fn : Func} {c : Code} {args : Array Value} {w : World} {R : Ending → World → Prop} (hf : P.funcs[f]? = some fn) (hb : fn.body = some c) (ρ : Val)
    (hs : Sat E ρ st { tmps := args ++ Array.replicate (fn.ntmps - args.size) undef, defers := [] } w) (h : G P E (retK P E fn R) c st) : Calls P f args w R := by
  refine calls_of_wp hf hb (wp_mono (h ρ _ w hs) ?_)
  rintro e a' w' ⟨ρ', st', hs', he, hk⟩
  obtain ⟨v, hr, hR⟩ := hk ρ' a' w' hs'
  rcases he with rfl | rfl
  · exact ⟨hs'.df, v, hr, hR⟩
  · exact ⟨hs'.df, v, hr, hR⟩
end
end Go.Sx
