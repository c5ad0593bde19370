/- The symbolic executor, part I: calls by contracts, rows that are read, the entry into a function with plain arguments and rows, results. Generic over P. -/
import Derived.Test.YtiicemgngccicaaSxH
set_option linter.unusedVariables false
set_option linter.unusedSimpArgs false
namespace Go.Sx
open Go.RowKit

/-- A slice that can be read: n elements of sz cells. -/
def RdRow (w : World) (A : Option Addr) (n sz : Nat) (el : Nat → List Value) : Prop :=
  0 < n → ∃ b o, A = some ⟨b, o, none⟩ ∧ b < w.heap.size ∧ ∀ i, i < n → (el i).length = sz ∧ ∀ j, j < sz → w.cell? ⟨b, o + (i * sz + j), none⟩ = (el i)[j]?
theorem RdRow.below {w w' : World} {A : Option Addr} {n sz : Nat} {el : Nat → List Value} (h : RdRow w A n sz el) (hb : Below w.heap.size w w') : RdRow w' A n sz el := by
  intro hn
  obtain ⟨b, o, e, h1, h2⟩ := h hn
  exact ⟨b, o, e, Nat.lt_of_lt_of_le h1 hb.size, fun i hi => ⟨(h2 i hi).1, fun j hj => (hb.cell h1).trans ((h2 i hi).2 j hj)⟩⟩
theorem RdRow.less {w : World} {A : Option Addr} {n n' sz : Nat} {el : Nat → List Value} (h : RdRow w A n sz el) (hn : n' ≤ n) : RdRow w A n' sz el := by
  intro h0
  obtain ⟨b, o, e, h1, h2⟩ := h (by omega)
  exact ⟨b, o, e, h1, fun i hi => h2 i (by omega)⟩
theorem RdRow.congr {w : World} {A : Option Addr} {n sz : Nat} {el el' : Nat → List Value} (h : RdRow w A n sz el) (he : ∀ i, i < n → el' i = el i) : RdRow w A n sz el' := by
  intro h0
  obtain ⟨b, o, e, h1, h2⟩ := h h0
  exact ⟨b, o, e, h1, fun i hi => by rw [he i hi]; exact h2 i hi⟩
theorem RdRow.nil (w : World) (A : Option Addr) (sz : Nat) (el : Nat → List Value) : RdRow w A 0 sz el := fun h => absurd h (by omega)
/-- A row in memory that the call has made. -/
def RdNew (w w' : World) (A : Option Addr) (n sz : Nat) (el : Nat → List Value) : Prop :=
  0 < n → ∃ b o, A = some ⟨b, o, none⟩ ∧ w.heap.size ≤ b ∧ b < w'.heap.size ∧ ∀ i, i < n → (el i).length = sz ∧ ∀ j, j < sz → w'.cell? ⟨b, o + (i * sz + j), none⟩ = (el i)[j]?
theorem RdNew.rd {w w' : World} {A : Option Addr} {n sz : Nat} {el : Nat → List Value} (h : RdNew w w' A n sz el) : RdRow w' A n sz el := by
  intro hn
  obtain ⟨b, o, e, _, h1, h2⟩ := h hn
  exact ⟨b, o, e, h1, h2⟩

section
variable {P : Program} {E : Env} {K : Exit → St → Prop} {st : St} {T : Tab} {ops : Array Oper} {rest : List Oper}

theorem SatM.rd {ρ : Val} {m : Nat → Option Blk} {w : World} (h : SatM E ρ m w) {x len cap sz n : Nat} {A : Option Addr} {el : Nat → List Value} (hx : m x = some (.ro sz n el)) (ho : AC.ok ρ m (.inp x A len cap)) (hl : len ≤ n) : RdRow w A len sz el := by
  intro h0
  obtain ⟨h1, h2⟩ := h.ok x _ hx (by omega)
  exact ⟨_, _, ho.2 h0, h1, fun i hi => h2 i (by omega)⟩
theorem SatM.rdArr {ρ : Val} {m : Nat → Option Blk} {w : World} (h : SatM E ρ m w) {x sz n room : Nat} {ty : TypeId} {el : Nat → List Value} (hx : m x = some (.arr ty sz n el room)) (i0 len : Nat) (hl : i0 + len ≤ n) :
    RdRow w (some ⟨(ρ x).1, (ρ x).2 + i0 * sz, none⟩) len sz (fun i => el (i0 + i)) := by
  intro h0
  obtain ⟨h1, _, a, ha, hs, he⟩ := h.ok x _ hx
  refine ⟨_, _, rfl, lt_of_heap ha, fun i hi => ⟨(he _ (by omega)).1, fun j hj => ?_⟩⟩
  rw [h1, Nat.zero_add, cell_of_heap ha, ← (he (i0 + i) (by omega)).2 j hj]
  congr 1
  rw [Nat.add_mul]
  omega
theorem SatM.rdVar {ρ : Val} {m : Nat → Option Blk} {w : World} (h : SatM E ρ m w) {x sz : Nat} {ty : TypeId} {vs : List Value} (hx : m x = some (.var ty (vs.map .k))) (i0 len : Nat) (hl : (i0 + len) * sz ≤ vs.length) :
    RdRow w (some ⟨(ρ x).1, (ρ x).2 + i0 * sz, none⟩) len sz (fun i => (vs.drop ((i0 + i) * sz)).take sz) := by
  intro h0
  obtain ⟨h1, _, ha, _⟩ := h.ok x _ hx
  refine ⟨_, _, rfl, lt_of_heap ha, fun i hi => ?_⟩
  have h2 : (i0 + i + 1) * sz ≤ (i0 + len) * sz := Nat.mul_le_mul_right _ (by omega)
  rw [Nat.succ_mul] at h2
  refine ⟨by simp; omega, fun j hj => ?_⟩
  rw [h1, Nat.zero_add, cell_of_heap ha, map_conc_k, List.getElem?_toArray, List.getElem?_take, if_pos hj, List.getElem?_drop]
  congr 1
  rw [Nat.add_mul]
  omega

/-! ### Calls -/
inductive CR where
  | bad
  | mk (f : FuncId) (avs : List AV) (caps : List Cap)
def argsC (ev : Operand → TV) (l : List Operand) (Kc : List AV → CR) : CR := match l with
  | [] => Kc []
  | y :: r => match ev y with
    | .v (.c (.k v)) => argsC ev r fun l => Kc (.c (.k v) :: l)
    | .v (.c (.ptr x i sz off)) => argsC ev r fun l => Kc (.c (.ptr x i sz off) :: l)
    | .v (.c (.slc x i sz len cap)) => argsC ev r fun l => Kc (.c (.slc x i sz len cap) :: l)
    | .v (.c (.inp x A len cap)) => argsC ev r fun l => Kc (.c (.inp x A len cap) :: l)
    | .v (.c (.fn f caps)) => argsC ev r fun l => Kc (.c (.fn f caps) :: l)
    | .v (.agg cs) => argsC ev r fun l => Kc (.agg cs :: l)
    | _ => .bad
def callE (t : Nat → TV) (c : Call) : CR := match c.callee with
  | .value y => match evT t y with
    | .v (.c (.k (.func (.func f) first caps))) => match first.toList with
      | [] => argsC (evT t) c.args.toList fun l => .mk f l (caps.toList.map .val)
      | _ => .bad
    | .v (.c (.fn f caps)) => argsC (evT t) c.args.toList fun l => .mk f l caps
    | _ => .bad
  | _ => .bad
theorem argsC_ok {ρ : Val} {m : Nat → Option Blk} {ev : Operand → TV} {η : Operand → Value} (hev : ∀ y, (ev y).rep ρ m (η y)) {l : List Operand} {Kc : List AV → CR} {f : FuncId} {avs : List AV} {caps : List Cap} (h : argsC ev l Kc = .mk f avs caps) :
    ∃ as : List AV, (∀ a ∈ as, a.ok ρ m) ∧ l.map η = as.map (AV.conc ρ) ∧ Kc as = .mk f avs caps := by
  induction l generalizing Kc with
  | nil => exact ⟨[], by simp, rfl, h⟩
  | cons y r ih =>
    have hy := hev y
    simp only [argsC] at h
    split at h
    case h_7 => cases h
    all_goals
      rename_i e
      rw [e] at hy
      obtain ⟨as, h1, h2, h3⟩ := ih h
      refine ⟨_ :: as, fun a ha => ?_, ?_, h3⟩
      · cases ha with
        | head => exact hy.1
        | tail _ ha => exact h1 a ha
      · rw [List.map_cons, List.map_cons, h2, hy.2]
theorem call_run {ρ : Val} {a : Act} {w : World} (hs : Sat E ρ st a w) {o : Oper} {c : Call} {f : FuncId} {avs : List AV} {caps : List Cap} (hop : o.op = .call c) (he : callE st.t c = .mk f avs caps)
    (hcf : ∀ (args : Array Value) (w : World), (callFunc f args).run P w = .ok (.enter f args) w) :
    (execOp a.eval o).run P w = .ok (.enter f (avs.map (AV.conc ρ) ++ caps.map (Cap.conc ρ)).toArray) w ∧ (∀ v ∈ avs, v.ok ρ st.m) ∧ (∀ v ∈ caps, v.ok st.m) := by
  unfold callE at he
  split at he
  rotate_left
  · cases he
  rename_i y hy
  have hev : (evT st.t y).rep ρ st.m (a.eval y) := hs.eval y
  have fin : ∀ (f' : FuncId) (cv : Array Value) (caps' : List Cap), a.eval y = .func (.func f') #[] cv → cv.toList = caps'.map (Cap.conc ρ) → (∀ v ∈ caps', v.ok st.m) → (argsC (evT st.t) c.args.toList fun l => .mk f' l caps') = .mk f avs caps →
      (execOp a.eval o).run P w = .ok (.enter f (avs.map (AV.conc ρ) ++ caps.map (Cap.conc ρ)).toArray) w ∧ (∀ v ∈ avs, v.ok ρ st.m) ∧ (∀ v ∈ caps, v.ok st.m) := by
    intro f' cv caps' h1 h2 h2' h3
    obtain ⟨as, h4, h5, h6⟩ := argsC_ok (ev := evT st.t) hs.eval h3
    injection h6 with e1 e2 e3
    subst e1; subst e2; subst e3
    refine ⟨?_, h4, h2'⟩
    simp only [execOp, hop, resolve, hy, Sem.run_bind, Deferred.ofValue, h1, Sem.run_pure, Result.andThen_ok, invoke, hcf]
    congr 2
    apply Array.toList_inj.1
    simp [h2, h5]
  split at he
  · rename_i f' first cv hv
    rw [hv] at hev
    split at he
    · rename_i hf
      have hf' : first = #[] := by apply Array.toList_inj.1; simpa using hf
      subst hf'
      refine fin f' cv _ hev.2 ?_ (fun v hv => by obtain ⟨u, _, rfl⟩ := List.mem_map.1 hv; trivial) he
      rw [List.map_map]
      exact ((List.map_congr_left fun _ _ => rfl).trans (List.map_id _)).symm
    · cases he
  · rename_i f' caps' hv
    rw [hv] at hev
    exact fin f' _ caps' hev.2 (by simp) hev.1 he
  · cases he

theorem GO.call {o : Oper} {c : Call} {f : FuncId} {avs : List AV} {caps : List Cap} (hg : o.guard = none) (hop : o.op = .call c) (he : callE st.t c = .mk f avs caps)
    (hcf : ∀ (args : Array Value) (w : World), (callFunc f args).run P w = .ok (.enter f args) w)
    (h : ∀ ρ a w, Sat E ρ st a w → (∀ v ∈ avs, v.ok ρ st.m) → (∀ v ∈ caps, v.ok st.m) → Calls P f (avs.map (AV.conc ρ) ++ caps.map (Cap.conc ρ)).toArray w fun e w' => ∃ r ρ' st', e = .returned r ∧ Sat E ρ' st' (a.put o.dst r) w' ∧ GO P E ops K rest st') :
    GO P E ops K (o :: rest) st := by
  intro ρ a w hs
  obtain ⟨hr, hok, hok2⟩ := call_run hs hop he hcf
  unfold wpList
  rw [if_pos (by simp [Region.wanted, hg])]
  refine .inl ?_
  unfold Oper.wp
  rw [hr]
  refine (h ρ a w hs hok hok2).mono ?_
  rintro e w' ⟨r, ρ', st', rfl, hs', hk⟩
  exact hk ρ' _ w' hs'

def toAV : Value → AV
  | .agg cs => .agg (cs.toList.map AC.k)
  | v => .c (.k v)
def toTV : Value → TV
  | .tuple vs => .tup (vs.toList.map toAV)
  | .agg cs => .v (.agg (cs.toList.map AC.k))
  | v => .v (.c (.k v))
theorem toAV_ok (ρ : Val) (m : Nat → Option Blk) (v : Value) : (toAV v).ok ρ m ∧ (toAV v).conc ρ = v := by
  cases v <;> first
    | exact ⟨trivial, rfl⟩
    | (rename_i cs
       refine ⟨fun a ha => ?_, ?_⟩
       · obtain ⟨v, _, rfl⟩ := List.mem_map.1 ha; trivial
       · simp only [toAV, AV.conc, map_conc_k])
theorem toTV_rep (ρ : Val) (m : Nat → Option Blk) (v : Value) : (toTV v).rep ρ m v := by
  cases v <;> first
    | exact ⟨trivial, rfl⟩
    | (rename_i cs
       refine ⟨fun a ha => ?_, ?_⟩
       · obtain ⟨v, _, rfl⟩ := List.mem_map.1 ha; first | exact (toAV_ok ρ m v).1 | trivial
       · first
         | (simp only [AV.conc, map_conc_k]; done)
         | (rw [List.map_map]
            have : vs.toList.map (AV.conc ρ ∘ toAV) = vs.toList := (List.map_congr_left fun v _ => (toAV_ok ρ m v).2).trans (List.map_id _)
            rw [this]))
    | (rename_i vs
       refine ⟨fun a ha => ?_, ?_⟩
       · obtain ⟨v, _, rfl⟩ := List.mem_map.1 ha; exact (toAV_ok ρ m v).1
       · rw [List.map_map]
         have : vs.toList.map (AV.conc ρ ∘ toAV) = vs.toList := (List.map_congr_left fun v _ => (toAV_ok ρ m v).2).trans (List.map_id _)
         rw [this])

/-- A call whose answer is some value of which p holds; the memory has grown, what was there stands. -/
theorem GO.callEx {o : Oper} {c : Call} {f : FuncId} {avs : List AV} {caps : List Cap} (p : Value → Prop) (hg : o.guard = none) (hop : o.op = .call c) (he : callE st.t c = .mk f avs caps) (hd : dstOk E.N o.dst = true)
    (hcf : ∀ (args : Array Value) (w : World), (callFunc f args).run P w = .ok (.enter f args) w)
    (hc : ∀ ρ w, SatM E ρ st.m w → (∀ v ∈ avs, v.ok ρ st.m) → Calls P f (avs.map (AV.conc ρ) ++ caps.map (Cap.conc ρ)).toArray w fun e w' => ∃ v, e = .returned v ∧ p v ∧ Below w.heap.size w w')
    (k : ∀ v, p v → GO P E ops K rest ⟨Sx.putT st.t o.dst (toTV v), st.m⟩) : GO P E ops K (o :: rest) st := by
  refine GO.call hg hop he hcf fun ρ a w hs hok _ => (hc ρ w hs.mem hok).mono ?_
  rintro e w' ⟨v, rfl, hp, hb⟩
  exact ⟨v, ρ, _, rfl, (hs.below hb).putT (dstOk_lt hd) (toTV_rep _ _ v), k v hp⟩
theorem GO.callPlain {o : Oper} {c : Call} {f : FuncId} {avs : List AV} {caps : List Cap} {v : Value} (hg : o.guard = none) (hop : o.op = .call c) (he : callE st.t c = .mk f avs caps) (hd : dstOk E.N o.dst = true)
    (hcf : ∀ (args : Array Value) (w : World), (callFunc f args).run P w = .ok (.enter f args) w)
    (hc : ∀ ρ w, SatM E ρ st.m w → (∀ v ∈ avs, v.ok ρ st.m) → Calls P f (avs.map (AV.conc ρ) ++ caps.map (Cap.conc ρ)).toArray w fun e w' => e = .returned v ∧ Below w.heap.size w w')
    (k : GO P E ops K rest ⟨Sx.putT st.t o.dst (toTV v), st.m⟩) : GO P E ops K (o :: rest) st :=
  GO.callEx (fun u => u = v) hg hop he hd hcf (fun ρ w hm ho => (hc ρ w hm ho).mono fun e w' ⟨h1, h2⟩ => ⟨v, h1, rfl, h2⟩) (fun u hu => by subst hu; exact k)

/-! ### Entry with plain arguments and rows that came in -/
structure Inp where
  x : Nat
  A : Option Addr
  sz : Nat
  n : Nat
  el : Nat → List Value
def inpsM : List Inp → List (Nat × Blk)
  | [] => []
  | i :: r => (i.x, .ro i.sz i.n i.el) :: inpsM r
def inpsV (l : List Inp) (x : Nat) : Nat × Nat := match l with
  | [] => (0, 0)
  | i :: r => bif Nat.beq x i.x then (match i.A with | some a => (a.block, a.off) | none => (0, 0)) else inpsV r x
def argsT (avs : List AV) (j : Nat) : TV := match avs[j]? with
  | some a => .v a
  | none => .unk
/-- an argument's rows are among those that are told -/
def inpIn (l : List Inp) (x : Nat) (A : Option Addr) (len : Nat) : Prop := match l with
  | [] => False
  | i :: r => (i.x = x ∧ i.A = A ∧ len = i.n) ∨ (i.x ≠ x ∧ inpIn r x A len)
def AC.inps (l : List Inp) : AC → Prop
  | .k _ => True
  | .inp x A len _ => inpIn l x A len
  | _ => False
def allAC (l : List Inp) : List AC → Prop
  | [] => True
  | a :: r => a.inps l ∧ allAC l r
def AV.inps (l : List Inp) : AV → Prop
  | .c a => a.inps l
  | .agg cs => allAC l cs
def allInps (l : List Inp) : List AV → Prop
  | [] => True
  | a :: r => a.inps l ∧ allInps l r
def allRd (w : World) : List Inp → Prop
  | [] => True
  | i :: r => RdRow w i.A i.n i.sz i.el ∧ allRd w r

theorem AV.inps_mem {l : List Inp} {cs : List AC} (h : allAC l cs) : ∀ a ∈ cs, a.inps l := by
  induction cs with
  | nil => intro a ha; cases ha
  | cons b r ih =>
    intro a ha
    cases ha with
    | head => exact h.1
    | tail _ ha => exact ih h.2 a ha
theorem lkM_inps {l : List Inp} {x : Nat} {b : Blk} (h : lkM (inpsM l) x = some b) {w : World} (hr : allRd w l) : ∃ A n sz el, b = .ro sz n el ∧ RdRow w A n sz el ∧ inpsV l x = (match A with | some a => (a.block, a.off) | none => (0, 0)) := by
  induction l with
  | nil => cases h
  | cons i r ih =>
    cases hb : Nat.beq x i.x with
    | true =>
      simp only [inpsM, lkM, hb, cond_true] at h
      injection h with h
      subst h
      exact ⟨i.A, i.n, i.sz, i.el, rfl, hr.1, by simp only [inpsV, hb, cond_true]⟩
    | false =>
      simp only [inpsM, lkM, hb, cond_false] at h
      obtain ⟨A, n, sz, el, h1, h2, h3⟩ := ih h hr.2
      exact ⟨A, n, sz, el, h1, h2, by simp only [inpsV, hb, cond_false]; exact h3⟩
theorem inp_ok {l : List Inp} {x : Nat} {A : Option Addr} {len cap : Nat} {w : World} (hr : allRd w l) (h : inpIn l x A len) : AC.ok (inpsV l) (lkM (inpsM l)) (.inp x A len cap) := by
  induction l with
  | nil => cases h
  | cons i r ih =>
    rcases h with ⟨rfl, rfl, rfl⟩ | ⟨hne, h⟩
    · refine ⟨by simp [inpsM, lkM, Nat.beq_refl], fun h0 => ?_⟩
      obtain ⟨b, o, e, _⟩ := hr.1 h0
      simp only [inpsV, Nat.beq_refl, cond_true, e]
    · have hb : Nat.beq x i.x = false := by
        cases hb : Nat.beq x i.x with
        | false => rfl
        | true => exact absurd (Nat.eq_of_beq_eq_true hb).symm hne
      have := ih hr.2 h
      refine ⟨by simp only [inpsM, lkM, hb, cond_false]; exact this.1, fun h0 => ?_⟩
      simp only [inpsV, hb, cond_false]
      exact this.2 h0

theorem Sat.init {w : World} {N : Nat} {avs : List AV} {l : List Inp} (hr : allRd w l) (ha : allInps l avs) {args : Array Value} (hargs : args = (avs.map (AV.conc (inpsV l))).toArray) (hN : avs.length ≤ N) :
    Sat ⟨w, [], N⟩ (inpsV l) ⟨argsT avs, lkM (inpsM l)⟩ { tmps := args ++ Array.replicate (N - args.size) undef, defers := [] } w := by
  have hAC : ∀ a : AC, a.inps l → a.ok (inpsV l) (lkM (inpsM l)) := by
    intro a h
    cases a with
    | k v => trivial
    | inp x A len cap => exact inp_ok hr h
    | _ => cases h
  refine ⟨⟨Fr.refl _ _, by simp, fun x b hx => ?_, fun x y b c hx hy hb => ?_⟩, rfl, ?_, fun j => ?_⟩
  · obtain ⟨A, n, sz, el, rfl, h2, h3⟩ := lkM_inps hx hr
    intro h0
    obtain ⟨b, o, rfl, h4, h5⟩ := h2 h0
    rw [h3]
    exact ⟨h4, h5⟩
  · obtain ⟨A, n, sz, el, rfl, _⟩ := lkM_inps hx hr
    exact hb.elim
  · subst hargs
    simp
    omega
  · show (argsT avs j).rep _ _ _
    unfold argsT
    cases hj : avs[j]? with
    | none => trivial
    | some a =>
      have hlt : j < avs.length := (List.getElem?_eq_some_iff.1 hj).1
      have hmem : a ∈ avs := List.mem_of_getElem? hj
      have hin : a.inps l := by
        clear hj hlt hargs hN
        induction avs with
        | nil => cases hmem
        | cons b r ih =>
          cases hmem with
          | head => exact ha.1
          | tail _ hm => exact ih ha.2 hm
      refine ⟨?_, ?_⟩
      · cases a with
        | c a => exact hAC a hin
        | agg cs => exact fun a h => hAC a (AV.inps_mem hin a h)
      · subst hargs
        simp only [Array.getD_eq_getD_getElem?]
        rw [Array.getElem?_append_left (by simpa using hlt)]
        simp [hj]

/-! ### Results -/
def resOne (T : Tab) (st : St) : ResultVar → TV
  | .tmp t => st.t t
  | .cell a t => match evLoad T st.m t (st.t a) with
    | .ok tv _ [] => tv
    | _ => .unk
def resE (T : Tab) (st : St) : List ResultVar → TV
  | [r] => resOne T st r
  | _ => .unk
inductive VR where
  | bad
  | mk (v : Value)
def valsK (l : List AC) (Kv : List Value → VR) : VR := match l with
  | [] => Kv []
  | .k v :: r => valsK r fun r => Kv (v :: r)
  | _ :: _ => .bad
/-- the value of one result, if it is plain -/
def resV (T : Tab) (st : St) (r : ResultVar) (Kv : Value → VR) : VR := match resOne T st r with
  | .v (.c (.k v)) => Kv v
  | .v (.agg l) => valsK l fun vs => Kv (.agg vs.toArray)
  | _ => .bad
def resVs (T : Tab) (st : St) (l : List ResultVar) (Kv : List Value → VR) : VR := match l with
  | [] => Kv []
  | r :: s => resV T st r fun v => resVs T st s fun vs => Kv (v :: vs)
def resP (T : Tab) (st : St) (l : List ResultVar) : VR := resVs T st l fun vs => match vs with
  | [v] => .mk v
  | vs => .mk (.tuple vs.toArray)
theorem valsK_ok {l : List AC} {Kv : List Value → VR} {v : Value} (h : valsK l Kv = .mk v) : ∃ vs, l = vs.map .k ∧ Kv vs = .mk v := by
  induction l generalizing Kv with
  | nil => exact ⟨[], rfl, h⟩
  | cons a r ih =>
    cases a with
    | k u =>
      obtain ⟨vs, rfl, h2⟩ := ih h
      exact ⟨u :: vs, rfl, h2⟩
    | _ => cases h
def resSem (a : Act) : ResultVar → Sem Value
  | .tmp t => pure (a.tmps.getD t undef)
  | .cell b t => do loadVar t (← asAddr (a.tmps.getD b undef))
theorem resOne_run (hT : Tab.fine P T) {ρ : Val} {a : Act} {w : World} (hs : Sat E ρ st a w) {r : ResultVar} {av : AV} (h : resOne T st r = .v av) :
    (resSem a r).run P w = .ok (av.conc ρ) w ∧ av.ok ρ st.m := by
  cases r with
  | tmp t =>
    have := hs.tm t
    rw [show st.t t = .v av from h] at this
    exact ⟨congrArg (fun v => Result.ok v w) this.2, this.1⟩
  | cell b t =>
    have hb := hs.tm b
    simp only [resOne] at h
    split at h
    · rename_i tv m' he
      subst h
      obtain ⟨_, g, o, u, h1, h2, h3⟩ := evLoad_val (P := P) hT hs.mem hb he trivial
      rw [h1] at h2
      refine ⟨?_, h3.1⟩
      simp only [Instr.loadAt, Instr.sureAddr, Sem.run_bind, Sem.run_pure, Result.andThen_ok] at h2
      simp only [resSem, h1, asAddr, Sem.run_bind, Sem.run_pure, Result.andThen_ok, h2, h3.2]
    · cases h
theorem resV_run (hT : Tab.fine P T) {ρ : Val} {a : Act} {w : World} (hs : Sat E ρ st a w) {r : ResultVar} {Kv : Value → VR} {v : Value} (h : resV T st r Kv = .mk v) :
    ∃ u, (resSem a r).run P w = .ok u w ∧ Kv u = .mk v := by
  unfold resV at h
  split at h
  · rename_i u hu
    exact ⟨u, (resOne_run hT hs hu).1, h⟩
  · rename_i l hl
    obtain ⟨vs, rfl, h2⟩ := valsK_ok h
    refine ⟨_, (resOne_run hT hs hl).1, ?_⟩
    simp only [AV.conc, map_conc_k]
    exact h2
  · cases h
theorem resVs_run (hT : Tab.fine P T) {ρ : Val} {a : Act} {w : World} (hs : Sat E ρ st a w) {l : List ResultVar} {Kv : List Value → VR} {v : Value} (h : resVs T st l Kv = .mk v) :
    ∃ us, (l.mapM (m := Sem) (resSem a)).run P w = .ok us w ∧ Kv us = .mk v := by
  induction l generalizing Kv with
  | nil => exact ⟨[], rfl, h⟩
  | cons r s ih =>
    obtain ⟨u, h1, h2⟩ := resV_run hT hs h
    obtain ⟨us, h3, h4⟩ := ih h2
    exact ⟨u :: us, by simp only [List.mapM_cons, Sem.run_bind, h1, h3, Result.andThen_ok, Sem.run_pure], h4⟩
theorem results_run (hT : Tab.fine P T) {ρ : Val} {a : Act} {w : World} (hs : Sat E ρ st a w) {fn : Func} {v : Value} (h : resP T st fn.results.toList = .mk v) : (results fn a.tmps).run P w = .ok v w := by
  obtain ⟨us, h1, h2⟩ := resVs_run hT hs h
  have e : results fn a.tmps = (fn.results.mapM (m := Sem) (resSem a) >>= fun vs => pure (if h : vs.size = 1 then vs[0] else Value.tuple vs)) := by
    unfold results
    congr 2
  have h3 : (fn.results.mapM (m := Sem) (resSem a)).run P w = .ok us.toArray w := by
    rw [Array.mapM_eq_mapM_toList]
    simp only [Sem.run_map, h1, Result.andThen_ok]
  rw [e]
  simp only [Sem.run_bind, h3, Result.andThen_ok, Sem.run_pure]
  congr 1
  match us, h2 with
  | [u], h2 => injection h2
  | [], h2 => injection h2
  | u :: u' :: r, h2 => injection h2

/-- The leaf of a function whose answer is plain. -/
def endK (T : Tab) (fn : Func) (v : Value) : Exit → St → Prop := fun e st => (e = .ret ∨ e = .normal) ∧ resP T st fn.results.toList = .mk v
theorem endK_ret (hT : Tab.fine P T) {w : World} {N : Nat} {fn : Func} {v : Value} {e : Exit} (h : endK T fn v e st) : retK P ⟨w, [], N⟩ fn (fun e w' => e = .returned v ∧ Below w.heap.size w w') e st :=
  ⟨h.1, fun ρ a w' hs => ⟨v, results_run hT hs h.2, rfl, hs.mem.fr.toBelow⟩⟩
/-- A function with plain arguments and rows that came in, whose answer is plain. -/
theorem enterPlain (hT : Tab.fine P T) {f : FuncId} {fn : Func} {c : Code} {args : Array Value} {w : World} {v : Value} (hf : P.funcs[f]? = some fn) (hb : fn.body = some c) (N : Nat) (hN : fn.ntmps = N) (avs : List AV) (l : List Inp)
    (hargs : args = (avs.map (AV.conc (inpsV l))).toArray) (hl : Nat.ble avs.length N = true) (hr : allRd w l) (ha : allInps l avs)
    (h : G P ⟨w, [], N⟩ (endK T fn v) c ⟨argsT avs, lkM (inpsM l)⟩) : Calls P f args w fun e w' => e = .returned v ∧ Below w.heap.size w w' := by
  subst hN
  exact enter (E := ⟨w, [], fn.ntmps⟩) hf hb (inpsV l) (Sat.init hr ha hargs (Nat.le_of_ble_eq_true hl)) (h.mono fun e st hk => endK_ret hT hk)
/-- The same, where of the answer a property is told. -/
def endKp (T : Tab) (fn : Func) (p : Value → Prop) : Exit → St → Prop := fun e st => (e = .ret ∨ e = .normal) ∧ ∃ v, resP T st fn.results.toList = .mk v ∧ p v
theorem enterProp (hT : Tab.fine P T) {f : FuncId} {fn : Func} {c : Code} {args : Array Value} {w : World} (p : Value → Prop) (hf : P.funcs[f]? = some fn) (hb : fn.body = some c) (N : Nat) (hN : fn.ntmps = N) (avs : List AV) (l : List Inp)
    (hargs : args = (avs.map (AV.conc (inpsV l))).toArray) (hl : Nat.ble avs.length N = true) (hr : allRd w l) (ha : allInps l avs)
    (h : G P ⟨w, [], N⟩ (endKp T fn p) c ⟨argsT avs, lkM (inpsM l)⟩) : Calls P f args w fun e w' => ∃ v, e = .returned v ∧ p v ∧ Below w.heap.size w w' := by
  subst hN
  refine enter (E := ⟨w, [], fn.ntmps⟩) hf hb (inpsV l) (Sat.init hr ha hargs (Nat.le_of_ble_eq_true hl)) (h.mono fun e st hk => ⟨hk.1, fun ρ a w' hs => ?_⟩)
  obtain ⟨v, h1, h2⟩ := hk.2
  exact ⟨v, results_run hT hs h1, v, rfl, h2, hs.mem.fr.toBelow⟩
theorem endK.ret {fn : Func} {v u : Value} (h : resP T st fn.results.toList = .mk u) (e : u = v) : endK T fn v .ret st := ⟨.inl rfl, h.trans (congrArg VR.mk e)⟩
theorem endK.norm {fn : Func} {v u : Value} (h : resP T st fn.results.toList = .mk u) (e : u = v) : endK T fn v .normal st := ⟨.inr rfl, h.trans (congrArg VR.mk e)⟩
theorem endKp.ret {fn : Func} {p : Value → Prop} {u : Value} (h : resP T st fn.results.toList = .mk u) (e : p u) : endKp T fn p .ret st := ⟨.inl rfl, u, h, e⟩
theorem endKp.norm {fn : Func} {p : Value → Prop} {u : Value} (h : resP T st fn.results.toList = .mk u) (e : p u) : endKp T fn p .normal st := ⟨.inr rfl, u, h, e⟩
theorem vb {a b : Bool} (h : a = b) : Value.bool a = Value.bool b := congrArg _ h
theorem vi {k : IntKind} {a b : Int} (h : a = b) : Value.int k a = Value.int k b := congrArg _ h
end
end Go.Sx
