/- The symbolic executor, part N: functions that return a row, and calls of them; closures that turn captured variables, and calls of them. Generic over P. -/
import Derived.Test.YtiicemgngccicaaSxM
set_option linter.unusedVariables false
set_option linter.unusedSimpArgs false
namespace Go.Sx
open Go.RowKit
section
variable {P : Program} {E : Env} {K : Exit → St → Prop} {T : Tab}
theorem SatM.row {ρ : Val} {m : Mem} {w : World} (h : SatM E ρ m w) {x cap sz n : Nat} {A : Option Addr} {el : Nat → List Value} (hx : m x = some (.ro sz n el)) (ho : AV.ok ρ m (.c (.inp x A n cap))) : RdRow w A n sz el := h.rd (cap := cap) hx ho (Nat.le_refl _)
/-! ### A row as the answer -/
/-- the value is a row of n elements, in memory of ours -/
def rowAt (m : Mem) (n sz : Nat) (el : Nat → List Value) : TV → Prop
  | .v (.c (.k (.slice _ len _))) => len = n ∧ n = 0
  | .v (.c (.slc x i0 sz' len _)) => len = n ∧ sz' = sz ∧ match m x with
    | some (.var _ cells) => ∃ vs : List Value, cells = vs.map .k ∧ (i0 + n) * sz ≤ vs.length ∧ ∀ i, i < n → el i = (vs.drop ((i0 + i) * sz)).take sz
    | some (.arr _ sz2 n2 el2 _) => sz2 = sz ∧ i0 + n ≤ n2 ∧ ∀ i, i < n → el i = el2 (i0 + i)
    | _ => False
  | _ => False
theorem rowAt_new {w0 : World} {N : Nat} {ρ : Val} {m : Mem} {w : World} (hm : SatM ⟨w0, [], N⟩ ρ m w) {n sz : Nat} {el : Nat → List Value} {tv : TV} {v : Value} (hv : tv.rep ρ m v) (h : rowAt m n sz el tv) :
    ∃ A c, v = .slice A n c ∧ RdNew w0 w A n sz el := by
  unfold rowAt at h
  split at h
  · rename_i A len c
    obtain ⟨rfl, rfl⟩ := h
    exact ⟨A, c, hv.2, fun h0 => by omega⟩
  · rename_i x i0 sz' len c
    obtain ⟨rfl, rfl, h⟩ := h
    refine ⟨_, c, hv.2, ?_⟩
    split at h
    · rename_i ty cells hx
      obtain ⟨vs, rfl, h1, h2⟩ := h
      have hr := hm.rdVar (sz := sz') hx i0 len (by exact h1)
      have hk := hm.ok x _ hx
      intro h0
      obtain ⟨b, o, e, h3, h4⟩ := hr h0
      injection e with e
      injection e with e1 e2 e3
      refine ⟨b, o, by rw [← e1, ← e2], ?_, h3, fun i hi => ?_⟩
      · rcases hk.2.1 with h5 | h5
        · rw [← e1]; exact h5
        · cases h5
      · rw [h2 i hi]; exact h4 i hi
    · rename_i ty sz2 n2 el2 room hx
      obtain ⟨rfl, h1, h2⟩ := h
      have hr := hm.rdArr hx i0 len h1
      obtain ⟨_, h5, _⟩ := hm.ok x _ hx
      intro h0
      obtain ⟨b, o, e, h3, h4⟩ := hr h0
      injection e with e
      injection e with e1 e2 e3
      refine ⟨b, o, by rw [← e1, ← e2], ?_, h3, fun i hi => ?_⟩
      · rcases h5 with h5 | h5
        · rw [← e1]; exact h5
        · cases h5
      · rw [h2 i hi]; exact h4 i hi
    · cases h
  · cases h
def endRow (T : Tab) (fn : Func) (n sz : Nat) (el : Nat → List Value) : Exit → St → Prop := fun e st => (e = .ret ∨ e = .normal) ∧ ∃ r, fn.results.toList = [r] ∧ rowAt st.m n sz el (resOne T st r)
theorem rowAt_v {m : Mem} {n sz : Nat} {el : Nat → List Value} {tv : TV} (h : rowAt m n sz el tv) : ∃ av, tv = .v av := by
  unfold rowAt at h
  split at h
  · exact ⟨_, rfl⟩
  · exact ⟨_, rfl⟩
  · cases h
theorem results_one {fn : Func} {r : ResultVar} (hr : fn.results.toList = [r]) {a : Act} {w : World} {v : Value} (h : (resSem a r).run P w = .ok v w) : (results fn a.tmps).run P w = .ok v w := by
  have e : results fn a.tmps = (fn.results.mapM (m := Sem) (resSem a) >>= fun vs => pure (if h : vs.size = 1 then vs[0] else Value.tuple vs)) := by
    unfold results
    congr 2
  have h3 : (fn.results.mapM (m := Sem) (resSem a)).run P w = .ok #[v] w := by
    rw [Array.mapM_eq_mapM_toList, hr]
    simp only [Sem.run_map, List.mapM_cons, List.mapM_nil, Sem.run_bind, h, Result.andThen_ok, Sem.run_pure]
  rw [e]
  simp only [Sem.run_bind, h3, Result.andThen_ok, Sem.run_pure]
  rfl
theorem enterRow (hT : Tab.fine P T) {f : FuncId} {fn : Func} {c : Code} {args : Array Value} {w : World} (n sz : Nat) (el : Nat → List Value) (hf : P.funcs[f]? = some fn) (hb : fn.body = some c) (N : Nat) (hN : fn.ntmps = N) (avs : List AV) (l : List Inp)
    (hargs : args = (avs.map (AV.conc (inpsV l))).toArray) (hl : Nat.ble avs.length N = true) (hr : allRd w l) (ha : allInps l avs)
    (h : G P ⟨w, [], N⟩ (endRow T fn n sz el) c ⟨argsT avs, lkM (inpsM l)⟩) : Calls P f args w fun e w' => ∃ A c, e = .returned (.slice A n c) ∧ RdNew w w' A n sz el ∧ Below w.heap.size w w' := by
  subst hN
  refine enter (E := ⟨w, [], fn.ntmps⟩) hf hb (inpsV l) (Sat.init hr ha hargs (Nat.le_of_ble_eq_true hl)) (h.mono fun e st hk => ⟨hk.1, fun ρ a w' hs => ?_⟩)
  obtain ⟨r, h1, h2⟩ := hk.2
  obtain ⟨av, hav⟩ := rowAt_v h2
  obtain ⟨h3, h4⟩ := resOne_run hT hs hav
  rw [hav] at h2
  obtain ⟨A, c, h5, h6⟩ := rowAt_new hs.mem (tv := .v av) (v := av.conc ρ) ⟨h4, rfl⟩ h2
  exact ⟨_, results_one h1 h3, A, c, by rw [h5], h6, hs.mem.fr.toBelow⟩
theorem endRow.ret {fn : Func} {n sz : Nat} {el : Nat → List Value} {st : St} {r : ResultVar} (h : fn.results.toList = [r]) (hr : rowAt st.m n sz el (resOne T st r)) : endRow T fn n sz el .ret st := ⟨.inl rfl, r, h, hr⟩
theorem endRow.norm {fn : Func} {n sz : Nat} {el : Nat → List Value} {st : St} {r : ResultVar} (h : fn.results.toList = [r]) (hr : rowAt st.m n sz el (resOne T st r)) : endRow T fn n sz el .normal st := ⟨.inr rfl, r, h, hr⟩

/-- A row that a call has made gets a name. -/
theorem SatM.newRo {ρ : Val} {m : Mem} {w w' : World} (h : SatM E ρ m w) (hb : Below w.heap.size w w') {x n sz cap : Nat} (hx : m x = none) (hxb : x < 1000) {A : Option Addr} {el : Nat → List Value} (hr : RdNew w w' A n sz el) :
    ∃ ρ' : Val, (∀ y, (m y).isSome = true → ρ' y = ρ y) ∧ SatM E ρ' (up m x (some (.ro sz n el))) w' ∧ AC.ok ρ' (up m x (some (.ro sz n el))) (.inp x A n cap) := by
  let p : Nat × Nat := match A with | some a => (a.block, a.off) | none => (0, 0)
  have h' := h.below hb
  have hρ : ∀ y, (m y).isSome = true → up ρ x p y = ρ y := fun y hy => up_other _ _ (fun e => by subst e; simp [hx] at hy)
  have hp : 0 < n → w.heap.size ≤ p.1 ∧ p.1 < w'.heap.size ∧ A = some ⟨p.1, p.2, none⟩ ∧ ∀ i, i < n → (el i).length = sz ∧ ∀ j, j < sz → w'.cell? ⟨p.1, p.2 + (i * sz + j), none⟩ = (el i)[j]? := by
    intro h0
    obtain ⟨b, o, rfl, h1, h2, h3⟩ := hr h0
    exact ⟨h1, h2, rfl, h3⟩
  refine ⟨up ρ x p, hρ, ⟨h'.fr, fun q hq => ?_, fun y c hy => ?_, fun y z c d hy hz hc hd hne => ?_⟩, ?_, fun h0 => ?_⟩
  · have := h.bo q hq
    rw [up_other _ _ (by omega)]; exact this
  · by_cases e : y = x
    · subst e
      rw [up_same] at hy
      injection hy with hy
      subst hy
      intro h0
      obtain ⟨_, h2, _, h3⟩ := hp h0
      rw [up_same]
      exact ⟨h2, h3⟩
    · rw [up_other _ _ e] at hy
      have hk := h'.ok y c hy
      have ey : up ρ x p y = ρ y := up_other _ _ e
      cases c with
      | var ty cells =>
        have hcm : cells.map (AC.conc (up ρ x p)) = cells.map (AC.conc ρ) := List.map_congr_left fun c hm => AC.conc_mono hρ (hk.2.2.2 c hm)
        exact ⟨by rw [ey]; exact hk.1, by rw [ey]; exact hk.2.1, by rw [ey, hcm]; exact hk.2.2.1, fun c hc => AC.ok_mono (fun z hz => isSome_up z hz) hρ (hk.2.2.2 c hc)⟩
      | arr ty sz n el room =>
        obtain ⟨h1, h2, a, ha, hs, he⟩ := hk
        exact ⟨by rw [ey]; exact h1, by rw [ey]; exact h2, a, by rw [ey]; exact ha, hs, he⟩
      | ro sz n el =>
        intro hn
        rw [ey]
        exact hk hn
  · by_cases e1 : y = x
    · subst e1
      rw [up_same] at hy
      injection hy with hy
      subst hy
      exact hc.elim
    · rw [up_other _ _ e1] at hy
      by_cases e2 : z = x
      · subst e2
        rw [up_same] at hz
        injection hz with hz
        subst hz
        have h1 := h.lt hy hc
        have h2 := (hp hd).1
        rw [up_same, up_other _ _ e1]
        omega
      · rw [up_other _ _ e2] at hz
        rw [up_other _ _ e1, up_other _ _ e2]
        exact h.ne y z c d hy hz hc hd hne
  · rw [up_same]; rfl
  · rw [up_same]
    exact (hp h0).2.2.1
/-- A call of a function that returns a row. -/
theorem Steps.callRow {ops : Array Oper} {o : Oper} {c : Call} {f : FuncId} {avs : List AV} {caps : List Cap} {C : St} {x n sz : Nat} {el : Nat → List Value} (hd : o.dst = some x) (hx : C.m x = none) (hxb : Nat.blt x 1000 = true) (hdN : Nat.blt x E.N = true)
    (hg : o.guard = none) (hop : o.op = .call c) (he : callE C.t c = .mk f avs caps)
    (hcf : ∀ (args : Array Value) (w : World), (callFunc f args).run P w = .ok (.enter f args) w)
    (hc : ∀ m, LeM C.m m → ∀ ρ w, SatM E ρ m w → (∀ v ∈ avs, v.ok ρ m) → Calls P f (avs.map (AV.conc ρ) ++ caps.map (Cap.conc ρ)).toArray w fun e w' => ∃ A k, e = .returned (.slice A n k) ∧ RdNew w w' A n sz el ∧ Below w.heap.size w w')
    {st : St} (hle : Le (dx o) C st) {ρ : Val} {a : Act} {w : World} (hs : Sat E ρ st a w) {Kc : Act → World → Prop} {Q : Exit → Act → World → Prop}
    (hk : ∀ A k ρ' a' w', Sat E ρ' ⟨up st.t x (.v (.c (.inp x A n k))), up st.m x (some (.ro sz n el))⟩ a' w' → Kc a' w') : o.wp P a w Kc Q := by
  have hs' := hs.weakT hle.t
  obtain ⟨hr, hok, hok2⟩ := call_run hs' hop he hcf
  unfold Oper.wp
  rw [hr]
  refine (hc st.m hle.m ρ w hs.mem hok).mono ?_
  rintro e w' ⟨A, k, rfl, hn, hb⟩
  have hx' : st.m x = none := by
    have := hle.d
    simp only [dx, hd] at this
    rw [this]; exact hx
  obtain ⟨ρ', h1, h2, h3⟩ := hs.mem.newRo hb (cap := k) hx' (by simpa [Nat.blt_eq] using hxb) hn
  have hmv := hs.move h2 (fun y hy => isSome_up y hy) h1
  refine hk A k ρ' _ w' ?_
  rw [hd]
  exact hmv.put (by simpa [Nat.blt_eq] using hdN) ⟨h3, rfl⟩
theorem GO.callRow {ops : Array Oper} {rest : List Oper} {o : Oper} {c : Call} {f : FuncId} {avs : List AV} {caps : List Cap} {t : Nat → TV} {m : Mem} {x n sz : Nat} {el : Nat → List Value} (hd : o.dst = some x) (hx : m x = none) (hxb : Nat.blt x 1000 = true) (hdN : Nat.blt x E.N = true)
    (hg : o.guard = none) (hop : o.op = .call c) (he : callE t c = .mk f avs caps)
    (hcf : ∀ (args : Array Value) (w : World), (callFunc f args).run P w = .ok (.enter f args) w)
    (hc : ∀ ρ w, SatM E ρ m w → (∀ v ∈ avs, v.ok ρ m) → Calls P f (avs.map (AV.conc ρ) ++ caps.map (Cap.conc ρ)).toArray w fun e w' => ∃ A k, e = .returned (.slice A n k) ∧ RdNew w w' A n sz el ∧ Below w.heap.size w w')
    (k : ∀ A k, GO P E ops K rest ⟨up t x (.v (.c (.inp x A n k))), up m x (some (.ro sz n el))⟩) : GO P E ops K (o :: rest) ⟨t, m⟩ := by
  intro ρ a w hs
  refine GO.call hg hop he hcf (fun ρ a w hs hok _ => (hc ρ w hs.mem hok).mono ?_) ρ a w hs
  rintro e w' ⟨A, cp, rfl, hn, hb⟩
  obtain ⟨ρ', h1, h2, h3⟩ := hs.mem.newRo hb (cap := cp) hx (by simpa [Nat.blt_eq] using hxb) hn
  have hmv := hs.move h2 (fun y hy => isSome_up y hy) h1
  refine ⟨_, ρ', _, rfl, ?_, k A cp⟩
  rw [hd]
  exact hmv.put (by simpa [Nat.blt_eq] using hdN) ⟨h3, rfl⟩

/-! ### Closures that turn what they have captured -/
structure Tn where
  x : Nat
  ty : TypeId
  cs : List Value
def turned (m : Mem) : List Tn → Mem
  | [] => m
  | b :: r => up (turned m r) b.x (some (.var b.ty (b.cs.map .k)))
theorem turned_at {m : Mem} {l : List Tn} (y : Nat) : (∃ b ∈ l, b.x = y ∧ turned m l y = some (.var b.ty (b.cs.map .k))) ∨ ((∀ b ∈ l, b.x ≠ y) ∧ turned m l y = m y) := by
  induction l with
  | nil => exact .inr ⟨by simp, rfl⟩
  | cons b r ih =>
    by_cases e : y = b.x
    · subst e
      exact .inl ⟨b, by simp, rfl, by simp [turned, up_same]⟩
    · rcases ih with ⟨c, h1, h2, h3⟩ | ⟨h1, h2⟩
      · exact .inl ⟨c, by simp [h1], h2, by rw [turned, up_other _ _ e]; exact h3⟩
      · refine .inr ⟨fun c hc => ?_, by rw [turned, up_other _ _ e]; exact h2⟩
        cases hc with
        | head => exact fun h => e h.symm
        | tail _ hc => exact h1 c hc
theorem SatM.turn {ρ : Val} {m : Mem} {w w' : World} (h : SatM E ρ m w) {l : List Tn} (hl : ∀ b ∈ l, ∃ cells, m b.x = some (.var b.ty cells)) (hf : Fr w (l.map fun b => (ρ b.x).1) w') (hn : ∀ b ∈ l, w'.heap[(ρ b.x).1]? = some (.cells b.cs.toArray b.ty (0, 0))) : SatM E ρ (turned m l) w' := by
  have hsome : ∀ y, (m y).isSome = true → (turned m l y).isSome = true := by
    intro y hy
    rcases turned_at (m := m) (l := l) y with ⟨b, _, _, h3⟩ | ⟨_, h2⟩
    · rw [h3]; rfl
    · rw [h2]; exact hy
  have hold : ∀ y b, turned m l y = some b → ∃ b0, m y = some b0 ∧ (b.own → b0.own) ∧ (b.live → b0.live) := by
    intro y b hy
    rcases turned_at (m := m) (l := l) y with ⟨c, h1, rfl, h3⟩ | ⟨_, h2⟩
    · obtain ⟨cells, hc⟩ := hl c h1
      exact ⟨_, hc, fun _ => trivial, fun _ => trivial⟩
    · rw [h2] at hy
      exact ⟨b, hy, id, id⟩
  refine ⟨⟨hf.os.trans h.fr.os, hf.tape.trans h.fr.tape, hf.output.trans h.fr.output, Nat.le_trans h.fr.size hf.size, fun k hk hn => ?_⟩, h.bo, fun y b hy => ?_, fun y z c d hy hz hc hd hne => ?_⟩
  · refine (hf.block k (Nat.lt_of_lt_of_le hk h.fr.size) fun hmem => ?_).trans (h.fr.block k hk hn)
    obtain ⟨b, hb, e⟩ := List.mem_map.1 hmem
    obtain ⟨cells, hc⟩ := hl b hb
    have := (h.ok _ _ hc).2.1
    rcases mem_bor this with h1 | h1
    · rw [e] at h1; omega
    · rw [e] at h1; exact hn h1
  · rcases turned_at (m := m) (l := l) y with ⟨c, h1, rfl, h3⟩ | ⟨h1, h2⟩
    · rw [h3] at hy
      injection hy with hy
      subst hy
      obtain ⟨cells, hc⟩ := hl c h1
      have hk := h.ok _ _ hc
      refine ⟨hk.1, hk.2.1, by rw [map_conc_k]; exact hn c h1, fun a ha => ?_⟩
      obtain ⟨v, _, rfl⟩ := List.mem_map.1 ha
      trivial
    · rw [h2] at hy
      refine (h.ok y b hy).far hsome hf.size fun hlive => ?_
      refine hf.block _ (h.lt' hy hlive) fun hmem => ?_
      obtain ⟨c, hc, e⟩ := List.mem_map.1 hmem
      obtain ⟨cells, hcc⟩ := hl c hc
      exact h.ne _ _ _ _ hcc hy trivial hlive (h1 c hc) e
  · obtain ⟨c0, h1, h2, _⟩ := hold y c hy
    obtain ⟨d0, h3, _, h4⟩ := hold z d hz
    exact h.ne y z c0 d0 h1 h3 (h2 hc) (h4 hd) hne
/-- A call of a closure that turns variables of ours: it answers v. -/
theorem GO.callTurn {ops : Array Oper} {rest : List Oper} {o : Oper} {c : Call} {f : FuncId} {avs : List AV} {caps : List Cap} {t : Nat → TV} {m : Mem} {v : Value} (l : List Tn) (hg : o.guard = none) (hop : o.op = .call c) (he : callE t c = .mk f avs caps) (hd : dstOk E.N o.dst = true)
    (hcf : ∀ (args : Array Value) (w : World), (callFunc f args).run P w = .ok (.enter f args) w) (hl : ∀ b ∈ l, ∃ cells, m b.x = some (.var b.ty cells))
    (hc : ∀ ρ w, SatM E ρ m w → (∀ v ∈ avs, v.ok ρ m) → Calls P f (avs.map (AV.conc ρ) ++ caps.map (Cap.conc ρ)).toArray w fun e w' => e = .returned v ∧ Fr w (l.map fun b => (ρ b.x).1) w' ∧ ∀ b ∈ l, w'.heap[(ρ b.x).1]? = some (.cells b.cs.toArray b.ty (0, 0)))
    (k : GO P E ops K rest ⟨Sx.putT t o.dst (toTV v), turned m l⟩) : GO P E ops K (o :: rest) ⟨t, m⟩ := by
  refine GO.call hg hop he hcf (fun ρ a w hs hok _ => (hc ρ w hs.mem hok).mono ?_)
  rintro e w' ⟨rfl, hf, hn⟩
  have hm := hs.mem.turn hl hf hn
  have hsome : ∀ y, (m y).isSome = true → (turned m l y).isSome = true := by
    intro y hy
    rcases turned_at (m := m) (l := l) y with ⟨b, _, _, h3⟩ | ⟨_, h2⟩
    · rw [h3]; rfl
    · rw [h2]; exact hy
  exact ⟨v, ρ, _, rfl, (hs.move hm hsome (fun _ _ => rfl)).putT (dstOk_lt hd) (toTV_rep _ _ v), k⟩
/-- A variable that a closure has captured: its block, type and cells. -/
structure Br where
  x : Nat
  g : Nat
  ty : TypeId
  cs : List Value
def borM : List Br → List (Nat × Blk)
  | [] => []
  | b :: r => (b.x, .var b.ty (b.cs.map .k)) :: borM r
def borV (l : List Br) (x : Nat) : Nat × Nat := match l with
  | [] => (0, 0)
  | b :: r => bif Nat.beq x b.x then (b.g, 0) else borV r x
def AC.brs (l : List Br) : AC → Prop
  | .k _ => True
  | .ptr x _ _ _ => ∃ b ∈ l, b.x = x
  | _ => False
def AV.brs (l : List Br) : AV → Prop
  | .c a => a.brs l
  | .agg _ => False
def allBrs (l : List Br) : List AV → Prop
  | [] => True
  | a :: r => a.brs l ∧ allBrs l r
/-- names are 1000, 1001 and so on; the blocks are apart and hold the cells -/
structure Brs (w : World) (l : List Br) : Prop where
  nm : ∀ b ∈ l, 1000 ≤ b.x
  inj : ∀ b ∈ l, ∀ c ∈ l, b.x = c.x → b = c
  ne : ∀ b ∈ l, ∀ c ∈ l, b.x ≠ c.x → b.g ≠ c.g
  hp : ∀ b ∈ l, w.heap[b.g]? = some (.cells b.cs.toArray b.ty (0, 0))
theorem borV_at {l : List Br} (hinj : ∀ b ∈ l, ∀ c ∈ l, b.x = c.x → b = c) {b : Br} (hb : b ∈ l) : borV l b.x = (b.g, 0) ∧ lkM (borM l) b.x = some (.var b.ty (b.cs.map .k)) := by
  induction l with
  | nil => cases hb
  | cons c r ih =>
    cases hq : Nat.beq b.x c.x with
    | true =>
      have := hinj b hb c (by simp) (Nat.eq_of_beq_eq_true hq)
      subst this
      exact ⟨by simp only [borV, hq, cond_true], by simp only [borM, lkM, hq, cond_true]⟩
    | false =>
      have hb' : b ∈ r := by
        cases hb with
        | head => simp at hq
        | tail _ hb => exact hb
      have := ih (fun b hb c hc => hinj b (by simp [hb]) c (by simp [hc])) hb'
      exact ⟨by simp only [borV, hq, cond_false]; exact this.1, by simp only [borM, lkM, hq, cond_false]; exact this.2⟩
theorem lkM_bor {l : List Br} {x : Nat} {b : Blk} (h : lkM (borM l) x = some b) : ∃ c ∈ l, c.x = x ∧ b = .var c.ty (c.cs.map .k) := by
  induction l with
  | nil => cases h
  | cons c r ih =>
    cases hq : Nat.beq x c.x with
    | true =>
      simp only [borM, lkM, hq, cond_true] at h
      injection h with h
      exact ⟨c, by simp, (Nat.eq_of_beq_eq_true hq).symm, h.symm⟩
    | false =>
      simp only [borM, lkM, hq, cond_false] at h
      obtain ⟨d, h1, h2, h3⟩ := ih h
      exact ⟨d, by simp [h1], h2, h3⟩
theorem Sat.initBor {w : World} {N : Nat} {avs : List AV} {l : List Br} (hb : Brs w l) (ha : allBrs l avs) {args : Array Value} (hargs : args = (avs.map (AV.conc (borV l))).toArray) (hN : avs.length ≤ N) :
    Sat ⟨w, l.map (fun b => (b.x, b.g)), N⟩ (borV l) ⟨argsT avs, lkM (borM l)⟩ { tmps := args ++ Array.replicate (N - args.size) undef, defers := [] } w := by
  have hAC : ∀ a : AC, a.brs l → a.ok (borV l) (lkM (borM l)) := by
    intro a h
    cases a with
    | k v => trivial
    | ptr x i sz off =>
      obtain ⟨b, hb', rfl⟩ := h
      show (lkM (borM l) b.x).isSome = true
      rw [(borV_at hb.inj hb').2]; rfl
    | _ => cases h
  refine ⟨⟨Fr.refl _ _, fun p hp => ?_, fun x b hx => ?_, fun x y b c hx hy hb' hc hne => ?_⟩, rfl, ?_, fun j => ?_⟩
  · obtain ⟨b, hbm, rfl⟩ := List.mem_map.1 hp
    exact ⟨(borV_at hb.inj hbm).1, hb.nm b hbm⟩
  · obtain ⟨c, hc, rfl, rfl⟩ := lkM_bor hx
    have := (borV_at hb.inj hc).1
    refine ⟨by rw [this], .inr (by rw [this]; exact List.mem_map.2 ⟨c, hc, rfl⟩), by rw [this, map_conc_k]; exact hb.hp c hc, fun a ha => ?_⟩
    obtain ⟨v, _, rfl⟩ := List.mem_map.1 ha
    trivial
  · obtain ⟨b1, h1, rfl, rfl⟩ := lkM_bor hx
    obtain ⟨c1, h2, rfl, rfl⟩ := lkM_bor hy
    rw [(borV_at hb.inj h1).1, (borV_at hb.inj h2).1]
    exact hb.ne b1 h1 c1 h2 hne
  · subst hargs
    simp
    omega
  · show (argsT avs j).rep _ _ _
    unfold argsT
    cases hj : avs[j]? with
    | none => trivial
    | some a =>
      have hlt : j < avs.length := (List.getElem?_eq_some_iff.1 hj).1
      have hmem : a ∈ avs := List.mem_of_getElem? hj
      have hin : a.brs l := by
        clear hj hlt hargs hN
        induction avs with
        | nil => cases hmem
        | cons b r ih =>
          cases hmem with
          | head => exact ha.1
          | tail _ hm => exact ih ha.2 hm
      refine ⟨?_, ?_⟩
      · cases a with
        | c a => exact hAC a hin
        | agg cs => cases hin
      · subst hargs
        simp only [Array.getD_eq_getD_getElem?]
        rw [Array.getElem?_append_left (by simpa using hlt)]
        simp [hj]
def allOut (m : Mem) (l : List Tn) : Prop := match l with
  | [] => True
  | b :: r => m b.x = some (.var b.ty (b.cs.map .k)) ∧ allOut m r
theorem allOut_mem {m : Mem} {l : List Tn} (h : allOut m l) : ∀ b ∈ l, m b.x = some (.var b.ty (b.cs.map .k)) := by
  induction l with
  | nil => intro b hb; cases hb
  | cons c r ih =>
    intro b hb
    cases hb with
    | head => exact h.1
    | tail _ hb => exact ih h.2 b hb
/-- The leaf of a closure: the answer, and what the captured variables hold. -/
def endBor (T : Tab) (fn : Func) (v : Value) (out : List Tn) : Exit → St → Prop := fun e st => (e = .ret ∨ e = .normal) ∧ resP T st fn.results.toList = .mk v ∧ allOut st.m out
theorem enterBor (hT : Tab.fine P T) {f : FuncId} {fn : Func} {c : Code} {args : Array Value} {w : World} {v : Value} (out : List Tn) (hf : P.funcs[f]? = some fn) (hb : fn.body = some c) (N : Nat) (hN : fn.ntmps = N) (avs : List AV) (l : List Br) (hbr : Brs w l)
    (hargs : args = (avs.map (AV.conc (borV l))).toArray) (hl : Nat.ble avs.length N = true) (ha : allBrs l avs)
    (h : G P ⟨w, l.map (fun b => (b.x, b.g)), N⟩ (endBor T fn v out) c ⟨argsT avs, lkM (borM l)⟩) : Calls P f args w fun e w' => e = .returned v ∧ Fr w (l.map (·.g)) w' ∧ ∀ b ∈ out, ∀ g, (b.x, g) ∈ l.map (fun b => (b.x, b.g)) → w'.heap[g]? = some (.cells b.cs.toArray b.ty (0, 0)) := by
  subst hN
  refine enter (E := ⟨w, l.map (fun b => (b.x, b.g)), fn.ntmps⟩) hf hb (borV l) (Sat.initBor hbr ha hargs (Nat.le_of_ble_eq_true hl)) (h.mono fun e st hk => ⟨hk.1, fun ρ a w' hs => ?_⟩)
  obtain ⟨_, h1, h2⟩ := hk
  refine ⟨v, results_run hT hs h1, rfl, ?_, fun b hbo g hg => ?_⟩
  · have := hs.mem.fr
    rw [List.map_map] at this
    exact this
  · have hk := hs.mem.ok _ _ (allOut_mem h2 b hbo)
    have hρ := (hs.mem.bo _ hg).1
    have := hk.2.2.1
    rw [hρ, map_conc_k] at this
    exact this
end
end Go.Sx
