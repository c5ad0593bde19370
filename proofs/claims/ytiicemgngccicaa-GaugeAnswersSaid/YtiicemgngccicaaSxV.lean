/- The symbolic executor, part V: rows in blocks of our own: functions that answer one, calls of them, and calls that turn one. Generic over P. -/
import Derived.Test.YtiicemgngccicaaSxQ
set_option linter.unusedVariables false
set_option linter.unusedSimpArgs false
namespace Go.Sx
open Go.RowKit
/-- n elements of sz cells from the head of a block of cells of type ty. -/
def OwnAt (w : World) (b : Nat) (ty : TypeId) (n sz : Nat) (el : Nat → List Value) (room : Nat) : Prop :=
  ∃ a : Array Value, w.heap[b]? = some (.cells a ty (0, 0)) ∧ n * sz + room ≤ a.size ∧ ∀ i, i < n → (el i).length = sz ∧ ∀ j, j < sz → a[i * sz + j]? = (el i)[j]?
theorem OwnAt.congr {w : World} {b : Nat} {ty : TypeId} {n sz : Nat} {el el' : Nat → List Value} {room : Nat} (h : OwnAt w b ty n sz el room) (he : ∀ i, i < n → el i = el' i) : OwnAt w b ty n sz el' room := by
  obtain ⟨a, h1, h2, h3⟩ := h
  exact ⟨a, h1, h2, fun i hi => by rw [← he i hi]; exact h3 i hi⟩
/-- A row that a call has made, in a block of its own. -/
def RdOwn (w w' : World) (v : Value) (ty : TypeId) (n sz : Nat) (el : Nat → List Value) : Prop :=
  (n = 0 ∧ ∃ A c, v = .slice A 0 c) ∨ ∃ b c, v = .slice (some ⟨b, 0, none⟩) n c ∧ w.heap.size ≤ b ∧ OwnAt w' b ty n sz el 0
theorem OwnAt.rd {w : World} {b : Nat} {ty : TypeId} {n sz : Nat} {el : Nat → List Value} {room : Nat} (h : OwnAt w b ty n sz el room) : b < w.heap.size ∧ ∀ i, i < n → (el i).length = sz ∧ ∀ j, j < sz → w.cell? ⟨b, 0 + (i * sz + j), none⟩ = (el i)[j]? := by
  obtain ⟨a, h1, h2, h3⟩ := h
  refine ⟨(Array.getElem?_eq_some_iff.1 h1).1, fun i hi => ⟨(h3 i hi).1, fun j hj => ?_⟩⟩
  rw [← (h3 i hi).2 j hj, Nat.zero_add]
  simp [World.cell?, h1]
section
variable {P : Program} {E : Env} {K : Exit → St → Prop} {T : Tab}
def ownAt (m : Mem) (ty : TypeId) (n sz : Nat) (el : Nat → List Value) : TV → Prop
  | .v (.c (.k (.slice _ len _))) => len = 0 ∧ n = 0
  | .v (.c (.slc x i0 sz' len _)) => len = n ∧ sz' = sz ∧ i0 = 0 ∧ match m x with
    | some (.arr ty2 sz2 n2 el2 _) => ty2 = ty ∧ sz2 = sz ∧ n ≤ n2 ∧ ∀ i, i < n → el i = el2 i
    | some (.var ty2 cells) => ty2 = ty ∧ ∃ vs : List Value, cells = vs.map .k ∧ n * sz ≤ vs.length ∧ ∀ i, i < n → el i = (vs.drop (i * sz)).take sz
    | _ => False
  | _ => False
theorem ownAt_v {m : Mem} {ty : TypeId} {n sz : Nat} {el : Nat → List Value} {tv : TV} (h : ownAt m ty n sz el tv) : ∃ av, tv = .v av := by
  unfold ownAt at h
  split at h
  · exact ⟨_, rfl⟩
  · exact ⟨_, rfl⟩
  · cases h
theorem ownAt_new {w0 : World} {N : Nat} {ρ : Val} {m : Mem} {w : World} (hm : SatM ⟨w0, [], N⟩ ρ m w) {ty : TypeId} {n sz : Nat} {el : Nat → List Value} {tv : TV} {v : Value} (hv : tv.rep ρ m v) (h : ownAt m ty n sz el tv) : RdOwn w0 w v ty n sz el := by
  unfold ownAt at h
  split at h
  · rename_i A len c
    obtain ⟨rfl, rfl⟩ := h
    exact .inl ⟨rfl, A, c, hv.2⟩
  · rename_i x i0 sz' len c
    obtain ⟨rfl, rfl, rfl, h⟩ := h
    split at h
    · rename_i ty2 sz2 n2 el2 room hx
      obtain ⟨rfl, rfl, h1, h2⟩ := h
      obtain ⟨h3, h4, a, h5, h6, h7⟩ := hm.ok x _ hx
      have hb : w0.heap.size ≤ (ρ x).1 := by
        rcases h4 with h | h
        · exact h
        · cases h
      refine .inr ⟨(ρ x).1, c, ?_, hb, a, h5, ?_, fun i hi => by rw [h2 i hi]; exact h7 i (by omega)⟩
      · have := hv.2
        simpa [AV.conc, AC.conc, h3] using this
      · have := Nat.mul_le_mul_right sz2 h1
        omega
    · rename_i ty2 cells hx
      obtain ⟨rfl, vs, rfl, h1, h2⟩ := h
      obtain ⟨h3, h4, h5, h6⟩ := hm.ok x _ hx
      have hb : w0.heap.size ≤ (ρ x).1 := by
        rcases h4 with h | h
        · exact h
        · cases h
      rw [map_conc_k] at h5
      refine .inr ⟨(ρ x).1, c, ?_, hb, vs.toArray, h5, by simpa using h1, fun i hi => ?_⟩
      · have := hv.2
        simpa [AV.conc, AC.conc, h3] using this
      · have hle : i * sz' + sz' ≤ len * sz' := by
          have := Nat.mul_le_mul_right sz' (show i + 1 ≤ len by omega)
          rwa [Nat.add_mul, Nat.one_mul] at this
        rw [h2 i hi]
        refine ⟨by simp; omega, fun j hj => ?_⟩
        rw [List.getElem?_take, if_pos hj, List.getElem?_drop]
        simp
    · cases h
  · cases h
def endOwn (T : Tab) (fn : Func) (ty : TypeId) (n sz : Nat) (el : Nat → List Value) : Exit → St → Prop := fun e st => (e = .ret ∨ e = .normal) ∧ ∃ r, fn.results.toList = [r] ∧ ownAt st.m ty n sz el (resOne T st r)
theorem enterOwn (hT : Tab.fine P T) {f : FuncId} {fn : Func} {c : Code} {args : Array Value} {w : World} (ty : TypeId) (n sz : Nat) (el : Nat → List Value) (hf : P.funcs[f]? = some fn) (hb : fn.body = some c) (N : Nat) (hN : fn.ntmps = N) (avs : List AV) (l : List Inp)
    (hargs : args = (avs.map (AV.conc (inpsV l))).toArray) (hl : Nat.ble avs.length N = true) (hr : allRd w l) (ha : allInps l avs)
    (h : G P ⟨w, [], N⟩ (endOwn T fn ty n sz el) c ⟨argsT avs, lkM (inpsM l)⟩) : Calls P f args w fun e w' => ∃ v, e = .returned v ∧ RdOwn w w' v ty n sz el ∧ Below w.heap.size w w' := by
  subst hN
  refine enter (E := ⟨w, [], fn.ntmps⟩) hf hb (inpsV l) (Sat.init hr ha hargs (Nat.le_of_ble_eq_true hl)) (h.mono fun e st hk => ⟨hk.1, fun ρ a w' hs => ?_⟩)
  obtain ⟨r, h1, h2⟩ := hk.2
  obtain ⟨av, hav⟩ := ownAt_v h2
  obtain ⟨h3, h4⟩ := resOne_run hT hs hav
  rw [hav] at h2
  exact ⟨_, results_one h1 h3, _, rfl, ownAt_new hs.mem (tv := .v av) (v := av.conc ρ) ⟨h4, rfl⟩ h2, hs.mem.fr.toBelow⟩
theorem endOwn.ret {fn : Func} {ty : TypeId} {n sz : Nat} {el : Nat → List Value} {st : St} {r : ResultVar} (h : fn.results.toList = [r]) (hr : ownAt st.m ty n sz el (resOne T st r)) : endOwn T fn ty n sz el .ret st := ⟨.inl rfl, r, h, hr⟩
/-- A row of ours that a call has made gets a name. -/
theorem SatM.newOwnB {ρ : Val} {m : Mem} {w w' : World} (h : SatM E ρ m w) (hb : Below w.heap.size w w') {x : Nat} (hx : m x = none) (hxb : x < 1000) {ty : TypeId} {n sz b : Nat} {el : Nat → List Value} (hn : w.heap.size ≤ b) (ho : OwnAt w' b ty n sz el 0) :
    (∀ y, (m y).isSome = true → up ρ x (b, 0) y = ρ y) ∧ SatM E (up ρ x (b, 0)) (up m x (some (.arr ty sz n el 0))) w' := by
  have h' := h.below hb
  have hρ : ∀ y, (m y).isSome = true → up ρ x (b, 0) y = ρ y := fun y hy => up_other _ _ (fun e => by subst e; simp [hx] at hy)
  refine ⟨hρ, h'.fr, fun q hq => ?_, fun y c hy => ?_, fun y z c d hy hz hc hd hne => ?_⟩
  · have := h.bo q hq
    rw [up_other _ _ (by omega)]; exact this
  · by_cases e : y = x
    · subst e
      rw [up_same] at hy
      injection hy with hy
      subst hy
      rw [BlkOK, up_same]
      exact ⟨rfl, .inl (Nat.le_trans h.fr.size hn), ho⟩
    · rw [up_other _ _ e] at hy
      have hk := h'.ok y c hy
      have ey : up ρ x (b, 0) y = ρ y := up_other _ _ e
      cases c with
      | var ty cells =>
        have hcm : cells.map (AC.conc (up ρ x (b, 0))) = cells.map (AC.conc ρ) := List.map_congr_left fun c hm => AC.conc_mono hρ (hk.2.2.2 c hm)
        exact ⟨by rw [ey]; exact hk.1, by rw [ey]; exact hk.2.1, by rw [ey, hcm]; exact hk.2.2.1, fun c hc => AC.ok_mono (fun z hz => isSome_up z hz) hρ (hk.2.2.2 c hc)⟩
      | arr ty sz n el room =>
        obtain ⟨h1, h2, a, ha, hs, he⟩ := hk
        exact ⟨by rw [ey]; exact h1, by rw [ey]; exact h2, a, by rw [ey]; exact ha, hs, he⟩
      | ro sz n el =>
        intro hn
        rw [ey]
        exact hk hn
  · by_cases e1 : y = x
    · by_cases e2 : z = x
      · exact absurd (e1.trans e2.symm) hne
      · subst e1
        rw [up_other _ _ e2] at hz
        rw [up_same, up_other _ _ e2]
        have := h.lt' hz hd
        simp only
        omega
    · rw [up_other _ _ e1] at hy
      by_cases e2 : z = x
      · subst e2
        rw [up_same, up_other _ _ e1]
        have := h.lt hy hc
        simp only
        omega
      · rw [up_other _ _ e2] at hz
        rw [up_other _ _ e1, up_other _ _ e2]
        exact h.ne y z c d hy hz hc hd hne
theorem GO.callOwn {ops : Array Oper} {rest : List Oper} {o : Oper} {c : Call} {f : FuncId} {avs : List AV} {caps : List Cap} {t : Nat → TV} {m : Mem} {x n sz : Nat} {ty : TypeId} {el : Nat → List Value} (hd : o.dst = some x) (hx : m x = none) (hxb : Nat.blt x 1000 = true) (hdN : Nat.blt x E.N = true)
    (hg : o.guard = none) (hop : o.op = .call c) (he : callE t c = .mk f avs caps)
    (hcf : ∀ (args : Array Value) (w : World), (callFunc f args).run P w = .ok (.enter f args) w)
    (hc : ∀ ρ w, SatM E ρ m w → (∀ v ∈ avs, v.ok ρ m) → Calls P f (avs.map (AV.conc ρ) ++ caps.map (Cap.conc ρ)).toArray w fun e w' => ∃ v, e = .returned v ∧ RdOwn w w' v ty n sz el ∧ Below w.heap.size w w')
    (k0 : n = 0 → ∀ A k, GO P E ops K rest ⟨up t x (.v (.c (.k (.slice A 0 k)))), m⟩)
    (k1 : 0 < n → ∀ k, GO P E ops K rest ⟨up t x (.v (.c (.slc x 0 sz n k))), up m x (some (.arr ty sz n el 0))⟩) : GO P E ops K (o :: rest) ⟨t, m⟩ := by
  intro ρ a w hs
  refine GO.call hg hop he hcf (fun ρ a w hs hok _ => (hc ρ w hs.mem hok).mono ?_) ρ a w hs
  rintro e w' ⟨v, rfl, hn, hb⟩
  by_cases h0 : n = 0
  · obtain ⟨A, k, rfl⟩ : ∃ A k, v = .slice A 0 k := by
      rcases hn with ⟨_, h⟩ | ⟨b, c, rfl, _⟩
      · exact h
      · exact ⟨_, _, by rw [h0]⟩
    refine ⟨_, ρ, _, rfl, ?_, k0 h0 A k⟩
    rw [hd]
    exact (hs.below hb).put (by simpa [Nat.blt_eq] using hdN) ⟨trivial, rfl⟩
  · rcases hn with ⟨h, _⟩ | ⟨b, k, rfl, hbn, ho⟩
    · exact absurd h h0
    obtain ⟨h1, h2⟩ := hs.mem.newOwnB hb hx (by simpa [Nat.blt_eq] using hxb) hbn ho
    have hmv := hs.move h2 (fun y hy => isSome_up y hy) h1
    refine ⟨_, up ρ x (b, 0), _, rfl, ?_, k1 (by omega) k⟩
    rw [hd]
    exact hmv.put (by simpa [Nat.blt_eq] using hdN) ⟨by simp [AV.ok, AC.ok, up_same], by simp [AV.conc, AC.conc, up_same]⟩

/-! ### Calls that turn a row of ours -/
theorem SatM.turnArr {ρ : Val} {m : Mem} {w w' : World} (h : SatM E ρ m w) {x n sz : Nat} {ty : TypeId} {el el' : Nat → List Value} {room : Nat} (hx : m x = some (.arr ty sz n el room)) (hf : Fr w [(ρ x).1] w') (ho : OwnAt w' (ρ x).1 ty n sz el' 0) : SatM E ρ (up m x (some (.arr ty sz n el' 0))) w' := by
  have hkx := h.ok x _ hx
  have hold : ∀ y b, up m x (some (.arr ty sz n el' 0)) y = some b → ∃ b0, m y = some b0 ∧ (b.own → b0.own) ∧ (b.live → b0.live) := by
    intro y b hy
    by_cases e : y = x
    · subst e
      rw [up_same] at hy
      injection hy with hy
      subst hy
      exact ⟨_, hx, fun _ => trivial, fun _ => trivial⟩
    · rw [up_other _ _ e] at hy
      exact ⟨b, hy, id, id⟩
  refine ⟨⟨hf.os.trans h.fr.os, hf.tape.trans h.fr.tape, hf.output.trans h.fr.output, Nat.le_trans h.fr.size hf.size, fun k hk hn => ?_⟩, h.bo, fun y b hy => ?_, fun y z c d hy hz hc hd hne => ?_⟩
  · refine (hf.block k (Nat.lt_of_lt_of_le hk h.fr.size) fun hmem => ?_).trans (h.fr.block k hk hn)
    have e : k = (ρ x).1 := by simpa using hmem
    rcases mem_bor hkx.2.1 with h1 | h1
    · omega
    · rw [← e] at h1; exact hn h1
  · by_cases e : y = x
    · subst e
      rw [up_same] at hy
      injection hy with hy
      subst hy
      exact ⟨hkx.1, hkx.2.1, ho⟩
    · rw [up_other _ _ e] at hy
      refine (h.ok y b hy).far (fun z hz => isSome_up z hz) hf.size fun hlive => ?_
      refine hf.block _ (h.lt' hy hlive) fun hmem => ?_
      have e2 : (ρ y).1 = (ρ x).1 := by simpa using hmem
      exact h.ne x y _ _ hx hy trivial hlive (fun e3 => e e3.symm) e2.symm
  · obtain ⟨c0, h1, h2, _⟩ := hold y c hy
    obtain ⟨d0, h3, _, h4⟩ := hold z d hz
    exact h.ne y z c0 d0 h1 h3 (h2 hc) (h4 hd) hne
theorem GO.callTurnArr {ops : Array Oper} {rest : List Oper} {o : Oper} {c : Call} {f : FuncId} {avs : List AV} {caps : List Cap} {t : Nat → TV} {m : Mem} {v : Value} {x n sz : Nat} {ty : TypeId} {el : Nat → List Value} {room : Nat} (el' : Nat → List Value) (hg : o.guard = none) (hop : o.op = .call c) (he : callE t c = .mk f avs caps) (hd : dstOk E.N o.dst = true)
    (hcf : ∀ (args : Array Value) (w : World), (callFunc f args).run P w = .ok (.enter f args) w) (hx : m x = some (.arr ty sz n el room))
    (hc : ∀ ρ w, SatM E ρ m w → (∀ v ∈ avs, v.ok ρ m) → OwnAt w (ρ x).1 ty n sz el room → (ρ x).2 = 0 → Calls P f (avs.map (AV.conc ρ) ++ caps.map (Cap.conc ρ)).toArray w fun e w' => e = .returned v ∧ Fr w [(ρ x).1] w' ∧ OwnAt w' (ρ x).1 ty n sz el' 0)
    (k : GO P E ops K rest ⟨Sx.putT t o.dst (toTV v), up m x (some (.arr ty sz n el' 0))⟩) : GO P E ops K (o :: rest) ⟨t, m⟩ := by
  refine GO.call hg hop he hcf (fun ρ a w hs hok _ => (hc ρ w hs.mem hok (hs.mem.ok x _ hx).2.2 (hs.mem.ok x _ hx).1).mono ?_)
  rintro e w' ⟨rfl, hf, hn⟩
  exact ⟨v, ρ, _, rfl, (hs.move (hs.mem.turnArr hx hf hn) (fun y hy => isSome_up y hy) (fun _ _ => rfl)).putT (dstOk_lt hd) (toTV_rep _ _ v), k⟩
def turnV (b : Nat) (x : Nat) : Nat × Nat := bif Nat.beq x 1000 then (b, 0) else (0, 0)
def AV.tn : AV → Prop
  | .c (.k _) => True
  | .c (.slc x ..) => x = 1000
  | _ => False
def allTn : List AV → Prop
  | [] => True
  | a :: r => a.tn ∧ allTn r
theorem allTn_mem {l : List AV} (h : allTn l) {a : AV} (ha : a ∈ l) : a.tn := by
  induction l with
  | nil => cases ha
  | cons b r ih =>
    cases ha with
    | head => exact h.1
    | tail _ ha => exact ih h.2 ha
def turnM (ty : TypeId) (sz n : Nat) (el : Nat → List Value) (room : Nat) : Mem := lkM [(1000, .arr ty sz n el room)]
theorem turnM_some {ty : TypeId} {sz n : Nat} {el : Nat → List Value} {room x : Nat} {b : Blk} (h : turnM ty sz n el room x = some b) : x = 1000 ∧ b = .arr ty sz n el room := by
  unfold turnM lkM at h
  cases hq : Nat.beq x 1000 with
  | true =>
    have e := Nat.eq_of_beq_eq_true hq
    subst e
    exact ⟨rfl, by simpa using h.symm⟩
  | false =>
    exfalso
    simp only [hq] at h
    simp [lkM] at h
theorem Sat.initTurn {w : World} {N : Nat} {avs : List AV} {b : Nat} {ty : TypeId} {sz n : Nat} {el : Nat → List Value} {room : Nat} (ho : OwnAt w b ty n sz el room) (ha : allTn avs) {args : Array Value} (hargs : args = (avs.map (AV.conc (turnV b))).toArray) (hN : avs.length ≤ N) :
    Sat ⟨w, [(1000, b)], N⟩ (turnV b) ⟨argsT avs, turnM ty sz n el room⟩ { tmps := args ++ Array.replicate (N - args.size) undef, defers := [] } w := by
  have hx0 : turnM ty sz n el room 1000 = some (.arr ty sz n el room) := rfl
  refine ⟨⟨Fr.refl _ _, fun p hp => ?_, fun x c hx => ?_, fun x y c d hx hy hc hd hne => ?_⟩, rfl, ?_, fun j => ?_⟩
  · simp only [List.mem_singleton] at hp
    subst hp
    exact ⟨rfl, Nat.le_refl _⟩
  · obtain ⟨rfl, rfl⟩ := turnM_some hx
    exact ⟨rfl, .inr (.head _), ho⟩
  · obtain ⟨rfl, rfl⟩ := turnM_some hx
    obtain ⟨rfl, rfl⟩ := turnM_some hy
    exact absurd rfl hne
  · subst hargs
    simp
    omega
  · show (argsT avs j).rep _ _ _
    unfold argsT
    cases hj : avs[j]? with
    | none => trivial
    | some a =>
      have hlt : j < avs.length := (List.getElem?_eq_some_iff.1 hj).1
      have hmem : a ∈ avs := List.mem_of_getElem? hj
      have htn := allTn_mem ha hmem
      refine ⟨?_, ?_⟩
      · cases a with
        | c a =>
          cases a with
          | k v => trivial
          | slc x i sz len cap =>
            have : x = 1000 := htn
            subst this
            show (turnM _ _ _ _ _ 1000).isSome = true
            rw [hx0]; rfl
          | _ => exact htn.elim
        | agg l => exact htn.elim
      · subst hargs
        simp only [Array.getD_eq_getD_getElem?]
        rw [Array.getElem?_append_left (by simpa using hlt)]
        simp [hj]
def endTurn (T : Tab) (fn : Func) (v : Value) (ty : TypeId) (n sz : Nat) (el : Nat → List Value) : Exit → St → Prop := fun e st => (e = .ret ∨ e = .normal) ∧ resP T st fn.results.toList = .mk v ∧ ∃ el2 room2, st.m 1000 = some (.arr ty sz n el2 room2) ∧ ∀ i, i < n → el2 i = el i
theorem enterTurn (hT : Tab.fine P T) {f : FuncId} {fn : Func} {c : Code} {args : Array Value} {w : World} {v : Value} {b : Nat} (ty : TypeId) (n sz : Nat) (el el' : Nat → List Value) (room : Nat) (hf : P.funcs[f]? = some fn) (hb : fn.body = some c) (N : Nat) (hN : fn.ntmps = N) (avs : List AV) (ho : OwnAt w b ty n sz el room)
    (hargs : args = (avs.map (AV.conc (turnV b))).toArray) (hl : Nat.ble avs.length N = true) (ha : allTn avs)
    (h : G P ⟨w, [(1000, b)], N⟩ (endTurn T fn v ty n sz el') c ⟨argsT avs, turnM ty sz n el room⟩) : Calls P f args w fun e w' => e = .returned v ∧ Fr w [b] w' ∧ OwnAt w' b ty n sz el' 0 := by
  subst hN
  refine enter (E := ⟨w, [(1000, b)], fn.ntmps⟩) hf hb (turnV b) (Sat.initTurn ho ha hargs (Nat.le_of_ble_eq_true hl)) (h.mono fun e st hk => ⟨hk.1, fun ρ a w' hs => ?_⟩)
  obtain ⟨_, h1, el2, room2, h2, h3⟩ := hk
  refine ⟨v, results_run hT hs h1, rfl, hs.mem.fr, ?_⟩
  obtain ⟨_, _, a, h4, h5, h6⟩ := hs.mem.ok 1000 _ h2
  have hρ := (hs.mem.bo (1000, b) (.head _)).1
  simp only at hρ
  rw [hρ] at h4
  exact ⟨a, h4, by omega, fun i hi => by rw [← h3 i hi]; exact h6 i hi⟩
theorem endTurn.ret {fn : Func} {v u : Value} {ty : TypeId} {n sz : Nat} {el el2 : Nat → List Value} {room2 : Nat} {st : St} (h : resP T st fn.results.toList = .mk u) (e : u = v) (h2 : st.m 1000 = some (.arr ty sz n el2 room2)) (h3 : ∀ i, i < n → el2 i = el i) : endTurn T fn v ty n sz el .ret st := ⟨.inl rfl, h.trans (congrArg VR.mk e), el2, room2, h2, h3⟩
theorem endTurn.norm {fn : Func} {v u : Value} {ty : TypeId} {n sz : Nat} {el el2 : Nat → List Value} {room2 : Nat} {st : St} (h : resP T st fn.results.toList = .mk u) (e : u = v) (h2 : st.m 1000 = some (.arr ty sz n el2 room2)) (h3 : ∀ i, i < n → el2 i = el i) : endTurn T fn v ty n sz el .normal st := ⟨.inr rfl, h.trans (congrArg VR.mk e), el2, room2, h2, h3⟩
end
end Go.Sx
