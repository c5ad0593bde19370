/- The symbolic executor, part Q: two structs of whole numbers and truth values, compared. Generic over P. -/
import Derived.Test.YtiicemgngccicaaSxO
import Derived.Laws.StructEq
set_option linter.unusedVariables false
set_option linter.unusedSimpArgs false
namespace Go.Sx
open Go.RowKit
theorem fne {b : Bool} (h : b = false) : ¬ b = true := by rw [h]; exact Bool.false_ne_true
def leafT (P : Program) (t : TypeId) : Bool := match P.underlying t with
  | some (.int _) => true
  | some .bool => true
  | _ => false
theorem part_leaf {P : Program} {e : TypeId} (he : leafT P e = true) {xs : Array Value} {off : Nat} {v : Value} (hx : xs[off]? = some v) (w : World) : (part e xs off).run P w = .ok v w := by
  unfold leafT at he
  cases hu : P.underlying e with
  | none => simp [hu] at he
  | some d => cases d <;> simp [hu] at he <;> simp [part, isAgg, run_underlying hu, hx]
/-- The fields, one cell each, in order. -/
def flatF (P : Program) : Nat → List Field → Bool
  | _, [] => true
  | i, f :: fs => (f.name != "_") && Nat.beq f.offset i && leafT P f.type && flatF P (i + 1) fs
def fitV (P : Program) (t : TypeId) (x y : Value) : Bool := match x, y with
  | .int k _, .int k' _ => sameK k k' && (match P.underlying t with | some (.int _) => true | _ => false)
  | .bool _, .bool _ => match P.underlying t with | some .bool => true | _ => false
  | _, _ => false
def fitL (P : Program) : List Field → List Value → List Value → Bool
  | [], [], [] => true
  | f :: fs, x :: xs, y :: ys => fitV P f.type x y && fitL P fs xs ys
  | _, _, _ => false
def eqV : Value → Value → Bool
  | .int _ a, .int _ b => a == b
  | .bool a, .bool b => a == b
  | _, _ => false
def eqL : List Value → List Value → Bool
  | [x], [y] => eqV x y
  | x :: xs, y :: ys => eqV x y && eqL xs ys
  | _, _ => true
theorem eqL_cons (x y : Value) (xs ys : List Value) (hl : xs.length = ys.length) : eqL (x :: xs) (y :: ys) = (eqV x y && eqL xs ys) := by
  cases xs with
  | nil => cases ys with
    | nil => simp [eqL]
    | cons _ _ => simp at hl
  | cons _ _ => cases ys with
    | nil => simp at hl
    | cons _ _ => rfl
theorem fitL_len {P : Program} {fs : List Field} {xs ys : List Value} (h : fitL P fs xs ys = true) : xs.length = ys.length := by
  induction fs generalizing xs ys with
  | nil => cases xs <;> cases ys <;> simp_all [fitL]
  | cons f fs ih => cases xs <;> cases ys <;> simp_all [fitL]; exact ih h.2
theorem equalIn_leaf {P : Program} {t : TypeId} {x y : Value} (h : fitV P t x y = true) (d : Nat) (w : World) : (Op.equalIn (d + 1) t x y).run P w = .ok (eqV x y) w := by
  unfold fitV at h
  split at h
  · rename_i k a k' b
    simp only [Bool.and_eq_true] at h
    have hk := sameK_eq h.1
    subst hk
    split at h
    · rename_i q hu
      exact run_equalIn_int w d t k q a b hu
    · simp at h
  · rename_i a b
    split at h
    · rename_i hu
      exact run_equalIn_bool' w d t a b hu
    · cases h
  · cases h
theorem run_eqFields {P : Program} (d : Nat) (fs : List Field) (i : Nat) (pre pre' X Y : List Value) (hp : pre.length = i) (hp' : pre'.length = i) (hf : flatF P i fs = true) (hx : fitL P fs X Y = true) (w : World) :
    (Op.eqFields (d + 1) (pre ++ X).toArray (pre' ++ Y).toArray fs).run P w = .ok (eqL X Y) w := by
  induction fs generalizing i pre pre' X Y with
  | nil => cases X <;> cases Y <;> simp_all [fitL, Op.eqFields, eqL]
  | cons f fs ih =>
    cases X with
    | nil => cases Y <;> simp [fitL] at hx
    | cons x X => cases Y with
      | nil => simp [fitL] at hx
      | cons y Y =>
        simp only [fitL, Bool.and_eq_true] at hx
        simp only [flatF, Bool.and_eq_true] at hf
        have ho := Nat.eq_of_beq_eq_true hf.1.1.2
        have hn : f.name ≠ "_" := by simpa using hf.1.1.1
        have hX : (pre ++ x :: X).toArray[f.offset]? = some x := by rw [ho, ← hp]; simp
        have hY : (pre' ++ y :: Y).toArray[f.offset]? = some y := by rw [ho, ← hp']; simp
        simp only [Op.eqFields, if_pos hn, Sem.run_bind, part_leaf hf.1.2 hX w, part_leaf hf.1.2 hY w, Result.andThen_ok, equalIn_leaf hx.1 d w, Sem.run_ite, Sem.run_pure]
        rw [eqL_cons _ _ _ _ (fitL_len hx.2)]
        cases hv : eqV x y with
        | false => simp
        | true =>
          have := ih (i + 1) (pre ++ [x]) (pre' ++ [y]) X Y (by simp [hp]) (by simp [hp']) hf.2 hx.2
          rw [List.append_assoc, List.append_assoc] at this
          simpa using this
/-- A type that '==' compares cell by cell. -/
def CmpT (P : Program) (t : TypeId) (fs : Array Field) : Prop := P.underlying t = some (.struct fs) ∧ P.stoodInHeld t = false ∧ P.eqGuardType P.depth t = false ∧ flatF P 0 fs.toList = true
theorem CmpT.run {P : Program} {t : TypeId} {fs : Array Field} (h : CmpT P t fs) {X Y : List Value} (hx : fitL P fs.toList X Y = true) (w : World) : (Op.equalIn 10000 t (.agg X.toArray) (.agg Y.toArray)).run P w = .ok (eqL X Y) w := by
  have hS : P.fieldsOf t = fs := by rw [Program.fieldsOf, h.1]
  rw [show (10000 : Nat) = 9999 + 1 from rfl, run_equalIn_agg w 9999 t _ _ (by rw [hS]; exact h.1) h.2.1, hS]
  exact run_eqFields 9998 fs.toList 0 [] [] X Y rfl rfl h.2.2.2 hx w
section
variable {P : Program} {E : Env} {K : Exit → St → Prop} {T : Tab} {l : List Oper} {cls : List Nat} {X0 : List (Nat × Nat)} {base : St}
def eqR (neg : Bool) (X Y : List Value) : Bool := match neg with
  | false => eqL X Y
  | true => !(eqL X Y)
def eqOp : Bool → BinOp
  | false => .eql
  | true => .neq
theorem exec_structEq {t t' : TypeId} {fs : Array Field} {y z : Operand} {o : Oper} {X Y : List Value} (neg : Bool) (hop : o.op = .binOp (eqOp neg) t y z t') (hc : CmpT P t fs) (hx : fitL P fs.toList X Y = true) {η : Operand → Value} (hy : η y = .agg X.toArray) (hz : η z = .agg Y.toArray) (w : World) :
    (execOp η o).run P w = .ok (.value (.bool (eqR neg X Y))) w := by
  cases neg
  · simp only [execOp, hop, eqOp, eqR, hy, hz, Sem.run_bind, run_eqGuard_agg w .eql t y z _ _ hc.2.2.1, Result.andThen_ok, run_eql_struct, hc.run hx, Sem.run_pure]
  · simp only [execOp, hop, eqOp, eqR, hy, hz, Sem.run_bind, run_eqGuard_agg w .neq t y z _ _ hc.2.2.1, Result.andThen_ok, run_neq_struct, hc.run hx, Sem.run_pure]
theorem map_k_conc (ρ : Val) (X : List Value) : (AV.agg (X.map .k)).conc ρ = .agg X.toArray := by
  show Value.agg ((X.map AC.k).map (AC.conc ρ)).toArray = _
  rw [map_conc_k]
theorem Steps.structEq {ops : Array Oper} {o : Oper} {t t' : TypeId} {fs : Array Field} {y z : Operand} {C : St} (neg : Bool) (X Y : List Value) (hg : o.guard = none) (hop : o.op = .binOp (eqOp neg) t y z t') (hy : evT C.t y = .v (.agg (X.map .k))) (hz : evT C.t z = .v (.agg (Y.map .k))) (hd : dstOk E.N o.dst = true)
    (hc : CmpT P t fs) (hx : fitL P fs.toList X Y = true) : Steps P E ops o C (.v (.c (.k (.bool (eqR neg X Y))))) [] := by
  intro st hle ρ a w hs Kc Q hk
  have hs' := hs.weakT hle.t
  rw [if_pos (by simp [Region.wanted, hg])]
  have e1 : a.eval y = .agg X.toArray := by have := hs'.eval y; rw [show (St.mk C.t st.m).ev y = .v (.agg (X.map .k)) from hy] at this; rw [← map_k_conc ρ]; exact this.2
  have e2 : a.eval z = .agg Y.toArray := by have := hs'.eval z; rw [show (St.mk C.t st.m).ev z = .v (.agg (Y.map .k)) from hz] at this; rw [← map_k_conc ρ]; exact this.2
  exact Snd.go hs (dstOk_lt hd) (tv := .v (.c (.k (.bool (eqR neg X Y))))) (Snd.here hs.mem (v := .bool (eqR neg X Y)) (exec_structEq neg hop hc hx e1 e2 w) ⟨trivial, rfl⟩) fun ρ' a' w' hs'' => hk ρ' a' w' hs''
theorem Steps.structEqG {ops : Array Oper} {o : Oper} {t t' : TypeId} {fs : Array Field} {y z : Operand} {C : St} {j : Nat} {want cb : Bool} (neg : Bool) (X Y : List Value) (hg : o.guard = some (j, want)) (hb : guardB ops C.t j want = some cb) (hop : o.op = .binOp (eqOp neg) t y z t')
    (hob : AllP (stripObs C.t j want cb (slotsOf o.op.operands.toList)))
    (hy : evG C.t j want (slotsOf o.op.operands.toList) y = .v (.agg (X.map .k))) (hz : evG C.t j want (slotsOf o.op.operands.toList) z = .v (.agg (Y.map .k))) (hd : dstOk E.N o.dst = true)
    (hc : CmpT P t fs) (hx : fitL P fs.toList X Y = true) : Steps P E ops o C (.grd j want cb (.c (.k (.bool (eqR neg X Y))))) [] := by
  intro st hle ρ a w hs Kc Q hk
  have hs' := hs.weakT hle.t
  have hw := wanted_cond (ops := ops) hs' hg hb
  rw [hw]
  cases hcb : cb with
  | true =>
    subst hcb
    rw [if_pos rfl]
    have hev := fun y => evG_rep hs' hob rfl y
    have e1 : a.eval y = .agg X.toArray := by have := hev y; rw [hy] at this; rw [← map_k_conc ρ]; exact this.2
    have e2 : a.eval z = .agg Y.toArray := by have := hev z; rw [hz] at this; rw [← map_k_conc ρ]; exact this.2
    exact Snd.go hs (dstOk_lt hd) (tv := .grd j want true (.c (.k (.bool (eqR neg X Y))))) (Snd.here hs.mem (v := .bool (eqR neg X Y)) (exec_structEq neg hop hc hx e1 e2 w) ⟨fun _ => ⟨trivial, rfl⟩, fun hf => by cases hf⟩) fun ρ' a' w' hs'' => hk ρ' a' w' hs''
  | false =>
    subst hcb
    rw [if_neg (by simp)]
    exact hk ρ _ w (hs.putT (dstOk_lt hd) ⟨fun hf => (by cases hf), fun _ => rfl⟩)
theorem GO.structEq {ops : Array Oper} {rest : List Oper} {o : Oper} {t t' : TypeId} {fs : Array Field} {y z : Operand} {tt : Nat → TV} {m : Mem} (neg : Bool) (X Y : List Value) (r : Bool) (hr : eqR neg X Y = r) (hc : CmpT P t fs) (hg : o.guard = none) (hop : o.op = .binOp (eqOp neg) t y z t') (hy : evT tt y = .v (.agg (X.map .k))) (hz : evT tt z = .v (.agg (Y.map .k))) (hd : dstOk E.N o.dst = true)
    (hx : fitL P fs.toList X Y = true) (k : GO P E ops K rest ⟨Sx.putT tt o.dst (.v (.c (.k (.bool r)))), m⟩) : GO P E ops K (o :: rest) ⟨tt, m⟩ := by
  subst hr
  exact GO.steps (Steps.structEq (C := ⟨tt, m⟩) neg X Y hg hop hy hz hd hc hx) k
theorem GO.structEqG {ops : Array Oper} {rest : List Oper} {o : Oper} {t t' : TypeId} {fs : Array Field} {y z : Operand} {tt : Nat → TV} {m : Mem} {j : Nat} {want cb : Bool} (neg : Bool) (X Y : List Value) (r : Bool) (hr : eqR neg X Y = r) (hc : CmpT P t fs) (hg : o.guard = some (j, want)) (hb : guardB ops tt j want = some cb) (hop : o.op = .binOp (eqOp neg) t y z t')
    (hob : AllP (stripObs tt j want cb (slotsOf o.op.operands.toList)))
    (hy : evG tt j want (slotsOf o.op.operands.toList) y = .v (.agg (X.map .k))) (hz : evG tt j want (slotsOf o.op.operands.toList) z = .v (.agg (Y.map .k))) (hd : dstOk E.N o.dst = true)
    (hx : fitL P fs.toList X Y = true) (k : GO P E ops K rest ⟨Sx.putT tt o.dst (.grd j want cb (.c (.k (.bool r)))), m⟩) : GO P E ops K (o :: rest) ⟨tt, m⟩ := by
  subst hr
  exact GO.steps (Steps.structEqG (C := ⟨tt, m⟩) neg X Y hg hb hop hob hy hz hd hc hx) k
/-! ### Closures that turn variables, in a region that draws its order -/
def msT : List Tn → List (Nat × Blk)
  | [] => []
  | b :: r => (b.x, .var b.ty (b.cs.map .k)) :: msT r
theorem upm_msT (m : Mem) (l : List Tn) : upm m (msT l) = turned m l := by
  induction l with
  | nil => rfl
  | cons b r ih =>
    funext y
    have := congrFun ih y
    simp only [upm, msT, mget, turned, up] at this ⊢
    cases Nat.beq y b.x <;> simp_all
theorem Steps.callTurn {ops : Array Oper} {o : Oper} {c : Call} {f : FuncId} {avs : List AV} {caps : List Cap} {v : Value} {C : St} (l : List Tn) (hg : o.guard = none) (hop : o.op = .call c) (he : callE C.t c = .mk f avs caps) (hd : dstOk E.N o.dst = true)
    (hcf : ∀ (args : Array Value) (w : World), (callFunc f args).run P w = .ok (.enter f args) w) (hl : ∀ b ∈ l, ∃ cells, C.m b.x = some (.var b.ty cells))
    (hc : ∀ m, LeM C.m m → ∀ ρ w, SatM E ρ m w → (∀ v ∈ avs, v.ok ρ m) → Calls P f (avs.map (AV.conc ρ) ++ caps.map (Cap.conc ρ)).toArray w fun e w' => e = .returned v ∧ Fr w (l.map fun b => (ρ b.x).1) w' ∧ ∀ b ∈ l, w'.heap[(ρ b.x).1]? = some (.cells b.cs.toArray b.ty (0, 0))) : Steps P E ops o C (toTV v) (msT l) := by
  intro st hle ρ a w hs Kc Q hk
  have hs' := hs.weakT hle.t
  obtain ⟨hr, hok, hok2⟩ := call_run hs' hop he hcf
  rw [if_pos (by simp [Region.wanted, hg])]
  unfold Oper.wp
  rw [hr]
  refine (hc st.m hle.m ρ w hs.mem hok).mono ?_
  rintro e w' ⟨rfl, hf, hn⟩
  have hm := hs.mem.turn (fun b hb => (hl b hb).imp fun cells h => LeM.at hle.m h) hf hn
  have hsome : ∀ y, (st.m y).isSome = true → (turned st.m l y).isSome = true := by
    intro y hy
    rcases turned_at (m := st.m) (l := l) y with ⟨b, _, _, h3⟩ | ⟨_, h2⟩
    · rw [h3]; rfl
    · rw [h2]; exact hy
  rw [upm_msT] at hk
  exact hk ρ _ w' ((hs.move hm hsome (fun _ _ => rfl)).putT (dstOk_lt hd) (toTV_rep _ _ v))
theorem GD.callTurn {recs : List DR} {o : Oper} {rest : List Oper} {t : Nat → TV} {m : Mem} {c : Call} {f : FuncId} {avs : List AV} {caps : List Cap} {v : Value} (tl : List Tn) (i : Nat) (hi : recs.length = i) (hg : o.guard = none) (hop : o.op = .call c) (he : callE (canF l cls X0 base i recs).t c = .mk f avs caps) (hd : dstOk E.N o.dst = true)
    (hn : Wok X0 i o (msT tl) = true)
    (hcf : ∀ (args : Array Value) (w : World), (callFunc f args).run P w = .ok (.enter f args) w) (hl : ∀ b ∈ tl, ∃ cells, (canF l cls X0 base i recs).m b.x = some (.var b.ty cells))
    (hc : ∀ m, LeM (canF l cls X0 base i recs).m m → ∀ ρ w, SatM E ρ m w → (∀ v ∈ avs, v.ok ρ m) → Calls P f (avs.map (AV.conc ρ) ++ caps.map (Cap.conc ρ)).toArray w fun e w' => e = .returned v ∧ Fr w (tl.map fun b => (ρ b.x).1) w' ∧ ∀ b ∈ tl, w'.heap[(ρ b.x).1]? = some (.cells b.cs.toArray b.ty (0, 0)))
    (k : GD P E K l cls X0 base (⟨o, toTV v, msT tl⟩ :: recs) rest (Sx.putT t o.dst (toTV v)) (upm m (msT tl))) : GD P E K l cls X0 base recs (o :: rest) t m :=
  GD.step (Steps.callTurn tl hg hop (by rw [← canF_eq hi]; exact he) hd hcf (by rw [← canF_eq hi]; exact hl) (by rw [← canF_eq hi]; exact hc)) (by rw [hi]; exact hn) k
end
end Go.Sx
