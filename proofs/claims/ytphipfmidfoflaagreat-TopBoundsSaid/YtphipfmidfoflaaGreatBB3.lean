/- Top: the strips of heights, the staves of a profile. -/
import Derived.Test.YtphipfmidfoflaaGreatBB2
import Derived.Laws.StructEq
import Derived.Laws.OwnMore
import Derived.MapKept
import Derived.RangeFuncIn
import Derived.RangeFuncRecord
import Derived.RangeFuncSeq
import Derived.Defers
import Derived.RangeFuncLeaves
/- The symbolic executor, part Q: two structs of whole numbers and truth values, compared. Generic over P. -/
set_option linter.unusedVariables false
set_option linter.unusedSimpArgs false
namespace Go.Sx
open Go.RowKit
theorem fne {b : Bool} (h : b = false) : ¬ b = true := by rw [h]; exact Bool.false_ne_true
def leafT (P : Program) (t : TypeId) : Bool := match P.underlying t with
  | some (.int _) => true
  | some .bool => true
  | _ => false
theorem part_leaf {P : Program} {e : TypeId} (he : leafT P e = true) {xs : Array Value} {off : Nat} {v : Value} (hx : xs[off]? = some v) (w : World) : (part e xs off).run P w = .ok v w := by
  unfold leafT at he
  cases hu : P.underlying e with
  | none => simp [hu] at he
  | some d => cases d <;> simp [hu] at he <;> simp [part, isAgg, run_underlying hu, hx]
/-- The fields, one cell each, in order. -/
def flatF (P : Program) : Nat → List Field → Bool
  | _, [] => true
  | i, f :: fs => (f.name != "_") && Nat.beq f.offset i && leafT P f.type && flatF P (i + 1) fs
def fitV (P : Program) (t : TypeId) (x y : Value) : Bool := match x, y with
  | .int k _, .int k' _ => sameK k k' && (match P.underlying t with | some (.int _) => true | _ => false)
  | .bool _, .bool _ => match P.underlying t with | some .bool => true | _ => false
  | _, _ => false
def fitL (P : Program) : List Field → List Value → List Value → Bool
  | [], [], [] => true
  | f :: fs, x :: xs, y :: ys => fitV P f.type x y && fitL P fs xs ys
  | _, _, _ => false
def eqV : Value → Value → Bool
  | .int _ a, .int _ b => a == b
  | .bool a, .bool b => a == b
  | _, _ => false
def eqL : List Value → List Value → Bool
  | [x], [y] => eqV x y
  | x :: xs, y :: ys => eqV x y && eqL xs ys
  | _, _ => true
theorem eqL_cons (x y : Value) (xs ys : List Value) (hl : xs.length = ys.length) : eqL (x :: xs) (y :: ys) = (eqV x y && eqL xs ys) := by
  cases xs with
  | nil => cases ys with
    | nil => simp [eqL]
    | cons _ _ => simp at hl
  | cons _ _ => cases ys with
    | nil => simp at hl
    | cons _ _ => rfl
theorem fitL_len {P : Program} {fs : List Field} {xs ys : List Value} (h : fitL P fs xs ys = true) : xs.length = ys.length := by
  induction fs generalizing xs ys with
  | nil => cases xs <;> cases ys <;> simp_all [fitL]
  | cons f fs ih => cases xs <;> cases ys <;> simp_all [fitL]; exact ih h.2
theorem equalIn_leaf {P : Program} {t : TypeId} {x y : Value} (h : fitV P t x y = true) (d : Nat) (w : World) : (Op.equalIn (d + 1) t x y).run P w = .ok (eqV x y) w := by
  unfold fitV at h
  split at h
  · rename_i k a k' b
    simp only [Bool.and_eq_true] at h
    have hk := sameK_eq h.1
    subst hk
    split at h
    · rename_i q hu
      exact run_equalIn_int w d t k q a b hu
    · simp at h
  · rename_i a b
    split at h
    · rename_i hu
      exact run_equalIn_bool' w d t a b hu
    · cases h
  · cases h
theorem run_eqFields {P : Program} (d : Nat) (fs : List Field) (i : Nat) (pre pre' X Y : List Value) (hp : pre.length = i) (hp' : pre'.length = i) (hf : flatF P i fs = true) (hx : fitL P fs X Y = true) (w : World) :
    (Op.eqFields (d + 1) (pre ++ X).toArray (pre' ++ Y).toArray fs).run P w = .ok (eqL X Y) w := by
  induction fs generalizing i pre pre' X Y with
  | nil => cases X <;> cases Y <;> simp_all [fitL, Op.eqFields, eqL]
  | cons f fs ih =>
    cases X with
    | nil => cases Y <;> simp [fitL] at hx
    | cons x X => cases Y with
      | nil => simp [fitL] at hx
      | cons y Y =>
        simp only [fitL, Bool.and_eq_true] at hx
        simp only [flatF, Bool.and_eq_true] at hf
        have ho := Nat.eq_of_beq_eq_true hf.1.1.2
        have hn : f.name ≠ "_" := by simpa using hf.1.1.1
        have hX : (pre ++ x :: X).toArray[f.offset]? = some x := by rw [ho, ← hp]; simp
        have hY : (pre' ++ y :: Y).toArray[f.offset]? = some y := by rw [ho, ← hp']; simp
        simp only [Op.eqFields, if_pos hn, Sem.run_bind, part_leaf hf.1.2 hX w, part_leaf hf.1.2 hY w, Result.andThen_ok, equalIn_leaf hx.1 d w, Sem.run_ite, Sem.run_pure]
        rw [eqL_cons _ _ _ _ (fitL_len hx.2)]
        cases hv : eqV x y with
        | false => simp
        | true =>
          have := ih (i + 1) (pre ++ [x]) (pre' ++ [y]) X Y (by simp [hp]) (by simp [hp']) hf.2 hx.2
          rw [List.append_assoc, List.append_assoc] at this
          simpa using this
/-- A type that '==' compares cell by cell. -/
def CmpT (P : Program) (t : TypeId) (fs : Array Field) : Prop := P.underlying t = some (.struct fs) ∧ P.stoodInHeld t = false ∧ P.eqGuardType P.depth t = false ∧ flatF P 0 fs.toList = true
theorem CmpT.run {P : Program} {t : TypeId} {fs : Array Field} (h : CmpT P t fs) {X Y : List Value} (hx : fitL P fs.toList X Y = true) (w : World) : (Op.equalIn 10000 t (.agg X.toArray) (.agg Y.toArray)).run P w = .ok (eqL X Y) w := by
  have hS : P.fieldsOf t = fs := by rw [Program.fieldsOf, h.1]
  rw [show (10000 : Nat) = 9999 + 1 from rfl, run_equalIn_agg w 9999 t _ _ (by rw [hS]; exact h.1) h.2.1, hS]
  exact run_eqFields 9998 fs.toList 0 [] [] X Y rfl rfl h.2.2.2 hx w
section
variable {P : Program} {E : Env} {K : Exit → St → Prop} {T : Tab} {l : List Oper} {cls : List Nat} {X0 : List (Nat × Nat)} {base : St}
def eqR (neg : Bool) (X Y : List Value) : Bool := match neg with
  | false => eqL X Y
  | true => !(eqL X Y)
def eqOp : Bool → BinOp
  | false => .eql
  | true => .neq
theorem exec_structEq {t t' : TypeId} {fs : Array Field} {y z : Operand} {o : Oper} {X Y : List Value} (neg : Bool) (hop : o.op = .binOp (eqOp neg) t y z t') (hc : CmpT P t fs) (hx : fitL P fs.toList X Y = true) {η : Operand → Value} (hy : η y = .agg X.toArray) (hz : η z = .agg Y.toArray) (w : World) :
    (execOp η o).run P w = .ok (.value (.bool (eqR neg X Y))) w := by
  cases neg
  · simp only [execOp, hop, eqOp, eqR, hy, hz, Sem.run_bind, run_eqGuard_agg w .eql t y z _ _ hc.2.2.1, Result.andThen_ok, run_eql_struct, hc.run hx, Sem.run_pure]
  · simp only [execOp, hop, eqOp, eqR, hy, hz, Sem.run_bind, run_eqGuard_agg w .neq t y z _ _ hc.2.2.1, Result.andThen_ok, run_neq_struct, hc.run hx, Sem.run_pure]
theorem map_k_conc (ρ : Val) (X : List Value) : (AV.agg (X.map .k)).conc ρ = .agg X.toArray := by
  show Value.agg ((X.map AC.k).map (AC.conc ρ)).toArray = _
  rw [map_conc_k]
theorem Steps.structEqG {ops : Array Oper} {o : Oper} {t t' : TypeId} {fs : Array Field} {y z : Operand} {C : St} {j : Nat} {want cb : Bool} (neg : Bool) (X Y : List Value) (hg : o.guard = some (j, want)) (hb : guardB ops C.t j want = some cb) (hop : o.op = .binOp (eqOp neg) t y z t')
    (hob : AllP (stripObs C.t j want cb (slotsOf o.op.operands.toList)))
    (hy : evG C.t j want (slotsOf o.op.operands.toList) y = .v (.agg (X.map .k))) (hz : evG C.t j want (slotsOf o.op.operands.toList) z = .v (.agg (Y.map .k))) (hd : dstOk E.N o.dst = true)
    (hc : CmpT P t fs) (hx : fitL P fs.toList X Y = true) : Steps P E ops o C (.grd j want cb (.c (.k (.bool (eqR neg X Y))))) [] := by
  intro st hle ρ a w hs Kc Q hk
  have hs' := hs.weakT hle.t
  have hw := wanted_cond (ops := ops) hs' hg hb
  rw [hw]
  cases hcb : cb with
  | true =>
    subst hcb
    rw [if_pos rfl]
    have hev := fun y => evG_rep hs' hob rfl y
    have e1 : a.eval y = .agg X.toArray := by have := hev y; rw [hy] at this; rw [← map_k_conc ρ]; exact this.2
    have e2 : a.eval z = .agg Y.toArray := by have := hev z; rw [hz] at this; rw [← map_k_conc ρ]; exact this.2
    refine .inl ?_
    exact Snd.go hs (dstOk_lt hd) (tv := .grd j want true (.c (.k (.bool (eqR neg X Y))))) (Snd.here hs.mem (v := .bool (eqR neg X Y)) (exec_structEq neg hop hc hx e1 e2 w) ⟨fun _ => ⟨trivial, rfl⟩, fun hf => by cases hf⟩) fun ρ' a' w' hs'' => hk ρ' a' w' hs''
  | false =>
    subst hcb
    rw [if_neg (by simp)]
    exact hk ρ _ w (hs.putT (dstOk_lt hd) ⟨fun hf => (by cases hf), fun _ => rfl⟩)
theorem GO.structEqG {ops : Array Oper} {rest : List Oper} {o : Oper} {t t' : TypeId} {fs : Array Field} {y z : Operand} {tt : Nat → TV} {m : Mem} {j : Nat} {want cb : Bool} (neg : Bool) (X Y : List Value) (r : Bool) (hr : eqR neg X Y = r) (hc : CmpT P t fs) (hg : o.guard = some (j, want)) (hb : guardB ops tt j want = some cb) (hop : o.op = .binOp (eqOp neg) t y z t')
    (hob : AllP (stripObs tt j want cb (slotsOf o.op.operands.toList)))
    (hy : evG tt j want (slotsOf o.op.operands.toList) y = .v (.agg (X.map .k))) (hz : evG tt j want (slotsOf o.op.operands.toList) z = .v (.agg (Y.map .k))) (hd : dstOk E.N o.dst = true)
    (hx : fitL P fs.toList X Y = true) (k : GO P E ops K rest ⟨Sx.putT tt o.dst (.grd j want cb (.c (.k (.bool r)))), m⟩) : GO P E ops K (o :: rest) ⟨tt, m⟩ := by
  subst hr
  exact GO.steps (Steps.structEqG (C := ⟨tt, m⟩) neg X Y hg hb hop hob hy hz hd hc hx) k
/-! ### Closures that turn variables, in a region that draws its order -/
def msT : List Tn → List (Nat × Blk)
  | [] => []
  | b :: r => (b.x, .var b.ty (b.cs.map .k)) :: msT r
theorem upm_msT (m : Mem) (l : List Tn) : upm m (msT l) = turned m l := by
  induction l with
  | nil => rfl
  | cons b r ih =>
    funext y
    have := congrFun ih y
    simp only [upm, msT, mget, turned, up] at this ⊢
    cases Nat.beq y b.x <;> simp_all
theorem Steps.callTurn {ops : Array Oper} {o : Oper} {c : Call} {f : FuncId} {avs : List AV} {caps : List Cap} {v : Value} {C : St} (l : List Tn) (hg : o.guard = none) (hop : o.op = .call c) (he : callE C.t c = .mk f avs caps) (hd : dstOk E.N o.dst = true)
    (hcf : ∀ (args : Array Value) (w : World), (callFunc f args).run P w = .ok (.enter f args) w) (hl : ∀ b ∈ l, ∃ cells, C.m b.x = some (.var b.ty cells))
    (hc : ∀ m, LeM C.m m → ∀ ρ w, SatM E ρ m w → (∀ v ∈ avs, v.ok ρ m) → Calls P f (avs.map (AV.conc ρ) ++ caps.map (Cap.conc ρ)).toArray w fun e w' => e = .returned v ∧ Fr w (l.map fun b => (ρ b.x).1) w' ∧ ∀ b ∈ l, w'.heap[(ρ b.x).1]? = some (.cells b.cs.toArray b.ty (0, 0))) : Steps P E ops o C (toTV v) (msT l) := by
  intro st hle ρ a w hs Kc Q hk
  have hs' := hs.weakT hle.t
  obtain ⟨hr, hok, hok2⟩ := call_run hs' hop he hcf
  rw [if_pos (by simp [Region.wanted, hg])]
  refine .inl ?_
  unfold Oper.wp
  rw [hr]
  refine (hc st.m hle.m ρ w hs.mem hok).mono ?_
  rintro e w' ⟨rfl, hf, hn⟩
  have hm := hs.mem.turn (fun b hb => (hl b hb).imp fun cells h => LeM.at hle.m h) hf hn
  have hsome : ∀ y, (st.m y).isSome = true → (turned st.m l y).isSome = true := by
    intro y hy
    rcases turned_at (m := st.m) (l := l) y with ⟨b, _, _, h3⟩ | ⟨_, h2⟩
    · rw [h3]; rfl
    · rw [h2]; exact hy
  rw [upm_msT] at hk
  exact hk ρ _ w' ((hs.move hm hsome (fun _ _ => rfl)).putT (dstOk_lt hd) (toTV_rep _ _ v))
theorem GD.callTurn {recs : List DR} {o : Oper} {rest : List Oper} {t : Nat → TV} {m : Mem} {c : Call} {f : FuncId} {avs : List AV} {caps : List Cap} {v : Value} (tl : List Tn) (i : Nat) (hi : recs.length = i) (hg : o.guard = none) (hop : o.op = .call c) (he : callE (canF l cls X0 base i recs).t c = .mk f avs caps) (hd : dstOk E.N o.dst = true)
    (hn : Wok X0 i o (msT tl) = true)
    (hcf : ∀ (args : Array Value) (w : World), (callFunc f args).run P w = .ok (.enter f args) w) (hl : ∀ b ∈ tl, ∃ cells, (canF l cls X0 base i recs).m b.x = some (.var b.ty cells))
    (hc : ∀ m, LeM (canF l cls X0 base i recs).m m → ∀ ρ w, SatM E ρ m w → (∀ v ∈ avs, v.ok ρ m) → Calls P f (avs.map (AV.conc ρ) ++ caps.map (Cap.conc ρ)).toArray w fun e w' => e = .returned v ∧ Fr w (tl.map fun b => (ρ b.x).1) w' ∧ ∀ b ∈ tl, w'.heap[(ρ b.x).1]? = some (.cells b.cs.toArray b.ty (0, 0)))
    (k : GD P E K l cls X0 base (⟨o, toTV v, msT tl⟩ :: recs) rest (Sx.putT t o.dst (toTV v)) (upm m (msT tl))) : GD P E K l cls X0 base recs (o :: rest) t m :=
  GD.step (Steps.callTurn tl hg hop (by rw [← canF_eq hi]; exact he) hd hcf (by rw [← canF_eq hi]; exact hl) (by rw [← canF_eq hi]; exact hc)) (by rw [hi]; exact hn) k
end
end Go.Sx
/- Chapter 05: the factor, and what is corrected. -/
set_option linter.unusedVariables false
set_option linter.unusedSimpArgs false
set_option maxRecDepth 8000
namespace Go.Proofs.YtphipfmidfoflaaGreat
open Go.Sx Go.RowKit
theorem thRule_any (r : Int) (w : World) : Calls Tryz.prog 129 #[I r] w fun e w' => e = .returned (.bool (isB r)) ∧ Below w.heap.size w w' := by
  refine enterPlain tfine Tryz.func129 rfl 6 Tryz.ntmps129 [.c (.k (I r))] [] rfl rfl trivial ⟨trivial, trivial⟩ ?_
  refine G.seqR tfine rfl trivial ?_
  refine G.seqC tfine rfl trivial ?_
  refine GO.callPlain rfl rfl rfl rfl (fun args w => Tryz.call140 args w) (fun ρ w hm _ => word_any r w) ?_
  refine GO.fin tfine rfl trivial ?_
  refine G.ret (endK.ret rfl ?_)
  cases h : isB r with
  | false => rw [wordS, h, ByteArray.toList_eq, ByteArray.toList_eq]; rfl
  | true =>
    have hk := isB_true h
    rw [wordS, h, ByteArray.toList_eq, ByteArray.toList_eq]
    rcases (show r = 1 ∨ r = 2 ∨ r = 3 ∨ r = 4 by omega) with rfl | rfl | rfl | rfl <;> rfl
def thermal_rises (x0 : Int) : Bool := ((decide (x0 ≥ (0 : Int))) && (decide (x0 ≤ (10000 : Int))))
theorem thermal_rises_any (x0 : Int) (w : World) : Calls Tryz.prog 81 #[I x0] w fun e w' => e = .returned (.bool (thermal_rises x0)) ∧ Below w.heap.size w w' := by
  refine enterPlain tfine Tryz.func81 rfl 9 Tryz.ntmps81 [.c (.k (I x0))] [] rfl rfl trivial ⟨trivial, trivial⟩ ?_
  refine G.seqR tfine rfl ?_ ?_
  · first | trivial | (simp [AllP, condB]; done) | (simp only [AllP]; and_intros <;> first | trivial | decide | omega) | (simp [AllP, condB]; intros; and_intros <;> first | assumption | omega)
  refine G.seqR tfine rfl ?_ ?_
  · first | trivial | (simp [AllP, condB]; done) | (simp only [AllP]; and_intros <;> first | trivial | decide | omega) | (simp [AllP, condB]; intros; and_intros <;> first | assumption | omega)
  refine G.ret (endK.ret rfl ?_)
  first | (rw [thermal_rises]; done) | (rw [thermal_rises]; rfl)
def thermal_heat (x0 : Int) : Bool := ((decide (x0 ≥ (-400 : Int))) && (decide (x0 ≤ (600 : Int))))
theorem thermal_heat_any (x0 : Int) (w : World) : Calls Tryz.prog 82 #[I x0] w fun e w' => e = .returned (.bool (thermal_heat x0)) ∧ Below w.heap.size w w' := by
  refine enterPlain tfine Tryz.func82 rfl 9 Tryz.ntmps82 [.c (.k (I x0))] [] rfl rfl trivial ⟨trivial, trivial⟩ ?_
  refine G.seqR tfine rfl ?_ ?_
  · first | trivial | (simp [AllP, condB]; done) | (simp only [AllP]; and_intros <;> first | trivial | decide | omega) | (simp [AllP, condB]; intros; and_intros <;> first | assumption | omega)
  refine G.seqR tfine rfl ?_ ?_
  · first | trivial | (simp [AllP, condB]; done) | (simp only [AllP]; and_intros <;> first | trivial | decide | omega) | (simp [AllP, condB]; intros; and_intros <;> first | assumption | omega)
  refine G.ret (endK.ret rfl ?_)
  first | (rw [thermal_heat]; done) | (rw [thermal_heat]; rfl)
def thermal_Factor (x0 : Int) (x1 : Int) : Int × Int := if ((!(thermal_rises x0)) || (!(thermal_heat x1))) = true then ((0 : Int), (2 : Int)) else (IntKind.i64.wrap ((10000000 : Int) + (IntKind.i64.wrap (x0 * (IntKind.i64.wrap (x1 - (200 : Int)))))), (0 : Int))
theorem thermal_Factor_any (x0 : Int) (x1 : Int) (w : World) : Calls Tryz.prog 130 #[I x0, I x1] w fun e w' => e = .returned (.tuple #[I ((thermal_Factor x0 x1).1), I ((thermal_Factor x0 x1).2)]) ∧ Below w.heap.size w w' := by
  refine enterPlain tfine Tryz.func130 rfl 19 Tryz.ntmps130 [.c (.k (I x0)), .c (.k (I x1))] [] rfl rfl trivial ⟨trivial, trivial, trivial⟩ ?_
  refine G.seqR tfine rfl ?_ ?_
  · first | trivial | (simp [AllP, condB]; done) | (simp only [AllP]; and_intros <;> first | trivial | decide | omega) | (simp [AllP, condB]; intros; and_intros <;> first | assumption | omega)
  refine G.seq ?_
  refine G.seqC tfine rfl ?_ ?_
  · first | trivial | (simp [AllP, condB]; done) | (simp only [AllP]; and_intros <;> first | trivial | decide | omega) | (simp [AllP, condB]; intros; and_intros <;> first | assumption | omega)
  refine GO.callPlain (v := .bool (thermal_rises x0))  rfl rfl rfl rfl (fun args w => Tryz.call81 args w) (fun ρ w hm _ => thermal_rises_any _ w) ?_
  refine GO.more tfine rfl ?_ ?_
  · first | trivial | (simp [AllP, condB]; done) | (simp only [AllP]; and_intros <;> first | trivial | decide | omega) | (simp [AllP, condB]; intros; and_intros <;> first | assumption | omega)
  refine GO.callGuard (.bool (thermal_heat x1)) rfl rfl rfl (by first | exact trivial | exact ⟨id, trivial⟩ | exact ⟨id, id, trivial⟩ | exact ⟨id, id, id, trivial⟩ | exact ⟨id, id, id, id, trivial⟩) rfl rfl (fun args w => Tryz.call82 args w) rfl (fun _ m' hle ρ w hs hok => thermal_heat_any _ w) ?_
  refine GO.fin tfine rfl ?_ ?_
  · first | trivial | (simp [AllP, condB]; done) | (simp only [AllP]; and_intros <;> first | trivial | decide | omega) | (simp [AllP, condB]; intros; and_intros <;> first | assumption | omega)
  refine G.cond rfl (fun h1 => ?_) (fun h1 => ?_)
  · refine G.seqR tfine rfl ?_ ?_
    · first | trivial | (simp [AllP, condB]; done) | (simp only [AllP]; and_intros <;> first | trivial | decide | omega) | (simp [AllP, condB]; intros; and_intros <;> first | assumption | omega)
    refine G.ret (endK.ret rfl ?_)
    first | (rw [thermal_Factor, h1]; done) | (rw [thermal_Factor, h1]; rfl)
  refine G.skip ?_
  refine G.seqR tfine rfl ?_ ?_
  · first | trivial | (simp [AllP, condB]; done) | (simp only [AllP]; and_intros <;> first | trivial | decide | omega) | (simp [AllP, condB]; intros; and_intros <;> first | assumption | omega)
  refine G.ret (endK.ret rfl ?_)
  first | (rw [thermal_Factor, h1]; done) | (rw [thermal_Factor, h1]; rfl)
def thermal_amount (x0 : Int) : Bool := (((of3 x0 (0 : Int) (1 : Int)).2.2) == (0 : Int))
theorem thermal_amount_any (x0 : Int) (w : World) : Calls Tryz.prog 83 #[I x0] w fun e w' => e = .returned (.bool (thermal_amount x0)) ∧ Below w.heap.size w w' := by
  refine enterPlain tfine Tryz.func83 rfl 14 Tryz.ntmps83 [.c (.k (I x0))] [] rfl rfl trivial ⟨trivial, trivial⟩ ?_
  refine G.seqR tfine rfl ?_ ?_
  · first | trivial | (simp [AllP, condB]; done) | (simp only [AllP]; and_intros <;> first | trivial | decide | omega) | (simp [AllP, condB]; intros; and_intros <;> first | assumption | omega)
  refine G.seqC tfine rfl ?_ ?_
  · first | trivial | (simp [AllP, condB]; done) | (simp only [AllP]; and_intros <;> first | trivial | decide | omega) | (simp [AllP, condB]; intros; and_intros <;> first | assumption | omega)
  refine GO.callPlain (v := .tuple #[I ((of3 x0 (0 : Int) (1 : Int)).1), I ((of3 x0 (0 : Int) (1 : Int)).2.1), I ((of3 x0 (0 : Int) (1 : Int)).2.2)])  rfl rfl rfl rfl (fun args w => Tryz.call108 args w) (fun ρ w hm _ => of_any _ _ _ w) ?_
  refine GO.fin tfine rfl ?_ ?_
  · first | trivial | (simp [AllP, condB]; done) | (simp only [AllP]; and_intros <;> first | trivial | decide | omega) | (simp [AllP, condB]; intros; and_intros <;> first | assumption | omega)
  refine G.seqR tfine rfl ?_ ?_
  · first | trivial | (simp [AllP, condB]; done) | (simp only [AllP]; and_intros <;> first | trivial | decide | omega) | (simp [AllP, condB]; intros; and_intros <;> first | assumption | omega)
  refine G.ret (endK.ret rfl ?_)
  first | (rw [thermal_amount]; done) | (rw [thermal_amount]; rfl)
def thermal_corrected (x0 : Int) (x1 : Int) (x2 : Int) (x3 : Int) (x4 : Bool) : Int × Int := if (!(isB x3)) = true then ((0 : Int), (1 : Int)) else if ((((thermal_Factor x1 x2).2) != (0 : Int)) || (!(thermal_amount x0))) = true then ((0 : Int), (2 : Int)) else if x4 = true then ((prod2 x0 (10000000 : Int) ((thermal_Factor x1 x2).1) x3).1, (prod2 x0 (10000000 : Int) ((thermal_Factor x1 x2).1) x3).2) else ((prod2 x0 ((thermal_Factor x1 x2).1) (10000000 : Int) x3).1, (prod2 x0 ((thermal_Factor x1 x2).1) (10000000 : Int) x3).2)
theorem thermal_corrected_any (x0 : Int) (x1 : Int) (x2 : Int) (x3 : Int) (x4 : Bool) (w : World) : Calls Tryz.prog 109 #[I x0, I x1, I x2, I x3, .bool x4] w fun e w' => e = .returned (.tuple #[I ((thermal_corrected x0 x1 x2 x3 x4).1), I ((thermal_corrected x0 x1 x2 x3 x4).2)]) ∧ Below w.heap.size w w' := by
  refine enterPlain tfine Tryz.func109 rfl 43 Tryz.ntmps109 [.c (.k (I x0)), .c (.k (I x1)), .c (.k (I x2)), .c (.k (I x3)), .c (.k (.bool x4))] [] rfl rfl trivial ⟨trivial, trivial, trivial, trivial, trivial, trivial⟩ ?_
  refine G.seqR tfine rfl ?_ ?_
  · first | trivial | (simp [AllP, condB]; done) | (simp only [AllP]; and_intros <;> first | trivial | decide | omega) | (simp [AllP, condB]; intros; and_intros <;> first | assumption | omega)
  refine G.seq ?_
  refine G.seqC tfine rfl ?_ ?_
  · first | trivial | (simp [AllP, condB]; done) | (simp only [AllP]; and_intros <;> first | trivial | decide | omega) | (simp [AllP, condB]; intros; and_intros <;> first | assumption | omega)
  refine GO.callPlain (v := .bool (isB x3))  rfl rfl rfl rfl (fun args w => Tryz.call129 args w) (fun ρ w hm _ => thRule_any _ w) ?_
  refine GO.fin tfine rfl ?_ ?_
  · first | trivial | (simp [AllP, condB]; done) | (simp only [AllP]; and_intros <;> first | trivial | decide | omega) | (simp [AllP, condB]; intros; and_intros <;> first | assumption | omega)
  refine G.cond rfl (fun h1 => ?_) (fun h1 => ?_)
  · refine G.seqR tfine rfl ?_ ?_
    · first | trivial | (simp [AllP, condB]; done) | (simp only [AllP]; and_intros <;> first | trivial | decide | omega) | (simp [AllP, condB]; intros; and_intros <;> first | assumption | omega)
    refine G.ret (endK.ret rfl ?_)
    first | (rw [thermal_corrected, h1]; done) | (rw [thermal_corrected, h1]; rfl)
  refine G.skip ?_
  refine G.seqC tfine rfl ?_ ?_
  · first | trivial | (simp [AllP, condB]; done) | (simp only [AllP]; and_intros <;> first | trivial | decide | omega) | (simp [AllP, condB]; intros; and_intros <;> first | assumption | omega)
  refine GO.callPlain (v := .tuple #[I ((thermal_Factor x1 x2).1), I ((thermal_Factor x1 x2).2)])  rfl rfl rfl rfl (fun args w => Tryz.call130 args w) (fun ρ w hm _ => thermal_Factor_any _ _ w) ?_
  refine GO.fin tfine rfl ?_ ?_
  · first | trivial | (simp [AllP, condB]; done) | (simp only [AllP]; and_intros <;> first | trivial | decide | omega) | (simp [AllP, condB]; intros; and_intros <;> first | assumption | omega)
  refine G.seq ?_
  refine G.seqC tfine rfl ?_ ?_
  · first | trivial | (simp [AllP, condB]; done) | (simp only [AllP]; and_intros <;> first | trivial | decide | omega) | (simp [AllP, condB]; intros; and_intros <;> first | assumption | omega)
  refine GO.callGuard (.bool (thermal_amount x0)) rfl rfl rfl (by first | exact trivial | exact ⟨id, trivial⟩ | exact ⟨id, id, trivial⟩ | exact ⟨id, id, id, trivial⟩ | exact ⟨id, id, id, id, trivial⟩) rfl rfl (fun args w => Tryz.call83 args w) rfl (fun _ m' hle ρ w hs hok => thermal_amount_any _ w) ?_
  refine GO.fin tfine rfl ?_ ?_
  · first | trivial | (simp [AllP, condB]; done) | (simp only [AllP]; and_intros <;> first | trivial | decide | omega) | (simp [AllP, condB]; intros; and_intros <;> first | assumption | omega)
  refine G.cond rfl (fun h2 => ?_) (fun h2 => ?_)
  · refine G.seqR tfine rfl ?_ ?_
    · first | trivial | (simp [AllP, condB]; done) | (simp only [AllP]; and_intros <;> first | trivial | decide | omega) | (simp [AllP, condB]; intros; and_intros <;> first | assumption | omega)
    refine G.ret (endK.ret rfl ?_)
    first | (rw [thermal_corrected, h1, h2]; done) | (rw [thermal_corrected, h1, h2]; rfl)
  refine G.skip ?_
  refine G.seq ?_
  refine G.seqR tfine rfl ?_ ?_
  · first | trivial | (simp [AllP, condB]; done) | (simp only [AllP]; and_intros <;> first | trivial | decide | omega) | (simp [AllP, condB]; intros; and_intros <;> first | assumption | omega)
  refine G.cond rfl (fun h3 => ?_) (fun h3 => ?_)
  · refine G.seqC tfine rfl ?_ ?_
    · first | trivial | (simp [AllP, condB]; done) | (simp only [AllP]; and_intros <;> first | trivial | decide | omega) | (simp [AllP, condB]; intros; and_intros <;> first | assumption | omega)
    refine GO.callPlain (v := .tuple #[I ((prod2 x0 (10000000 : Int) ((thermal_Factor x1 x2).1) x3).1), I ((prod2 x0 (10000000 : Int) ((thermal_Factor x1 x2).1) x3).2)])  rfl rfl rfl rfl (fun args w => Tryz.call131 args w) (fun ρ w hm _ => rprod_any _ _ _ _ w) ?_
    refine GO.fin tfine rfl ?_ ?_
    · first | trivial | (simp [AllP, condB]; done) | (simp only [AllP]; and_intros <;> first | trivial | decide | omega) | (simp [AllP, condB]; intros; and_intros <;> first | assumption | omega)
    refine G.ret (endK.ret rfl ?_)
    first | (rw [thermal_corrected, h1, h2, h3]; done) | (rw [thermal_corrected, h1, h2, h3]; rfl)
  refine G.skip ?_
  refine G.seqC tfine rfl ?_ ?_
  · first | trivial | (simp [AllP, condB]; done) | (simp only [AllP]; and_intros <;> first | trivial | decide | omega) | (simp [AllP, condB]; intros; and_intros <;> first | assumption | omega)
  refine GO.callPlain (v := .tuple #[I ((prod2 x0 ((thermal_Factor x1 x2).1) (10000000 : Int) x3).1), I ((prod2 x0 ((thermal_Factor x1 x2).1) (10000000 : Int) x3).2)])  rfl rfl rfl rfl (fun args w => Tryz.call131 args w) (fun ρ w hm _ => rprod_any _ _ _ _ w) ?_
  refine GO.fin tfine rfl ?_ ?_
  · first | trivial | (simp [AllP, condB]; done) | (simp only [AllP]; and_intros <;> first | trivial | decide | omega) | (simp [AllP, condB]; intros; and_intros <;> first | assumption | omega)
  refine G.ret (endK.ret rfl ?_)
  first | (rw [thermal_corrected, h1, h2, h3]; done) | (rw [thermal_corrected, h1, h2, h3]; rfl)
def thermal_To20 (x0 : Int) (x1 : Int) (x2 : Int) (x3 : Int) : Int × Int := ((thermal_corrected x0 x1 x2 x3 true).1, (thermal_corrected x0 x1 x2 x3 true).2)
theorem thermal_To20_any (x0 : Int) (x1 : Int) (x2 : Int) (x3 : Int) (w : World) : Calls Tryz.prog 85 #[I x0, I x1, I x2, I x3] w fun e w' => e = .returned (.tuple #[I ((thermal_To20 x0 x1 x2 x3).1), I ((thermal_To20 x0 x1 x2 x3).2)]) ∧ Below w.heap.size w w' := by
  refine enterPlain tfine Tryz.func85 rfl 17 Tryz.ntmps85 [.c (.k (I x0)), .c (.k (I x1)), .c (.k (I x2)), .c (.k (I x3))] [] rfl rfl trivial ⟨trivial, trivial, trivial, trivial, trivial⟩ ?_
  refine G.seqR tfine rfl ?_ ?_
  · first | trivial | (simp [AllP, condB]; done) | (simp only [AllP]; and_intros <;> first | trivial | decide | omega) | (simp [AllP, condB]; intros; and_intros <;> first | assumption | omega)
  refine G.seqC tfine rfl ?_ ?_
  · first | trivial | (simp [AllP, condB]; done) | (simp only [AllP]; and_intros <;> first | trivial | decide | omega) | (simp [AllP, condB]; intros; and_intros <;> first | assumption | omega)
  refine GO.callPlain (v := .tuple #[I ((thermal_corrected x0 x1 x2 x3 true).1), I ((thermal_corrected x0 x1 x2 x3 true).2)])  rfl rfl rfl rfl (fun args w => Tryz.call109 args w) (fun ρ w hm _ => thermal_corrected_any _ _ _ _ _ w) ?_
  refine GO.fin tfine rfl ?_ ?_
  · first | trivial | (simp [AllP, condB]; done) | (simp only [AllP]; and_intros <;> first | trivial | decide | omega) | (simp [AllP, condB]; intros; and_intros <;> first | assumption | omega)
  refine G.ret (endK.ret rfl ?_)
  first | (rw [thermal_To20]; done) | (rw [thermal_To20]; rfl)
end Go.Proofs.YtphipfmidfoflaaGreat
/- Chapter 05: the mean. -/
set_option linter.unusedVariables false
set_option linter.unusedSimpArgs false
set_option maxRecDepth 8000
namespace Go.Proofs.YtphipfmidfoflaaGreat
open Go.Sx Go.RowKit
end Go.Proofs.YtphipfmidfoflaaGreat
/- Chapter 05: the bounds. -/
set_option linter.unusedVariables false
set_option linter.unusedSimpArgs false
set_option maxRecDepth 8000
set_option maxHeartbeats 1000000
namespace Go.Proofs.YtphipfmidfoflaaGreat
open Go.Sx Go.RowKit
theorem brs2 {E : Env} {ρ : Val} {m : Mem} {w : World} (hs : SatM E ρ m w) {x y : Nat} {tx ty : TypeId} {cx cy : List Value} (hx : m x = some (.var tx (cx.map .k))) (hy : m y = some (.var ty (cy.map .k))) (hxy : x ≠ y) :
    Brs w [⟨1000, (ρ x).1, tx, cx⟩, ⟨1001, (ρ y).1, ty, cy⟩] := by
  have h9 := SatM.var hs hx
  have h10 := SatM.var hs hy
  have hne : (ρ x).1 ≠ (ρ y).1 := hs.ne x y _ _ hx hy trivial trivial hxy
  refine ⟨?_, ?_, ?_, ?_⟩
  · simp
  · simp
  · simp [hne, hne.symm]
  · simp [h9.2, h10.2]
def worse (a b : Int) : Int := if b > a then b else a
theorem end_any (n t by' rise worst : Int) (g1 g2 : Nat) (w : World) (h : Brs w [⟨1000, g1, 3, [I rise]⟩, ⟨1001, g2, 28, [I worst]⟩]) :
    Calls Tryz.prog 84 #[I n, I t, I by', .pointer (some ⟨g1, 0, none⟩), .pointer (some ⟨g2, 0, none⟩)] w fun e w' => e = .returned (I (thermal_To20 n rise t by').1) ∧ Fr w [g1, g2] w' ∧
      ∀ b ∈ ([⟨1000, 3, [I rise]⟩, ⟨1001, 28, [I (worse worst (thermal_To20 n rise t by').2)]⟩] : List Tn), ∀ g, (b.x, g) ∈ [(1000, g1), (1001, g2)] → w'.heap[g]? = some (.cells b.cs.toArray b.ty (0, 0)) := by
  refine enterBor tfine [⟨1000, 3, [I rise]⟩, ⟨1001, 28, [I (worse worst (thermal_To20 n rise t by').2)]⟩] Tryz.func84 rfl 23 Tryz.ntmps84 [.c (.k (I n)), .c (.k (I t)), .c (.k (I by')), .c (.ptr 1000 0 0 0), .c (.ptr 1001 0 0 0)] _ h rfl rfl ⟨trivial, trivial, trivial, ⟨_, .head _, rfl⟩, ⟨_, .tail _ (.head _), rfl⟩, trivial⟩ ?_
  refine G.seqR tfine rfl trivial ?_
  refine G.seqC tfine rfl trivial ?_
  refine GO.callPlain rfl rfl rfl rfl (fun args w => Tryz.call85 args w) (fun ρ w hm _ => thermal_To20_any n rise t by' w) ?_
  refine GO.fin tfine rfl trivial ?_
  refine G.seqR tfine rfl trivial ?_
  refine G.seqR tfine rfl trivial ?_
  exact G.ret ⟨.inl rfl, rfl, rfl, rfl, trivial⟩
def btw3 (a b s t rise : Int) : Int × Int × Int := if (decide (a > b) || decide (s > t)) = true then (0, 0, 1) else if ((((!(thermal_rises rise)) || (!(thermal_heat s))) || (!(thermal_heat t))) || (!(thermal_amount a)) || (!(thermal_amount b))) = true then (0, 0, 2)
  else if (worse (worse 0 (thermal_To20 a rise t 1).2) (thermal_To20 b rise s 2).2 != 0) = true then (0, 0, 15) else ((thermal_To20 a rise t 1).1, (thermal_To20 b rise s 2).1, 0)
theorem between_any (a b s t rise : Int) (w : World) : Calls Tryz.prog 48 #[.agg #[I a, I b], .agg #[I s, I t], I rise] w fun e w' => e = .returned (.tuple #[.agg #[I (btw3 a b s t rise).1, I (btw3 a b s t rise).2.1], I (btw3 a b s t rise).2.2]) ∧ Below w.heap.size w w' := by
  refine enterPlain tfine Tryz.func48 rfl 70 Tryz.ntmps48 [.agg [.k (I a), .k (I b)], .agg [.k (I s), .k (I t)], .c (.k (I rise))] [] rfl rfl trivial ⟨⟨trivial, trivial, trivial⟩, ⟨trivial, trivial, trivial⟩, trivial, trivial⟩ ?_
  refine G.seqR tfine rfl trivial ?_
  refine G.seq (G.seqR tfine rfl ?_ ?_)
  · simp [AllP, condB]
  refine G.cond rfl (fun h1 => ?_) (fun h1 => ?_)
  · refine G.seqR tfine rfl trivial ?_
    refine G.ret (endK.ret rfl ?_)
    rw [btw3, h1]; rfl
  refine G.skip ?_
  refine G.seq (G.seqC tfine rfl trivial ?_)
  refine GO.callPlain rfl rfl rfl rfl (fun args w => Tryz.call81 args w) (fun ρ w hm _ => thermal_rises_any _ w) ?_
  refine GO.more tfine rfl ?_ ?_
  · simp [AllP, condB]
  refine GO.callGuard (.bool (thermal_heat s)) rfl rfl rfl (by first | exact trivial | exact ⟨id, trivial⟩) rfl rfl (fun args w => Tryz.call82 args w) rfl (fun _ m' hle ρ w hs hok => thermal_heat_any _ w) ?_
  refine GO.more tfine rfl ?_ ?_
  · simp [AllP, condB]
  refine GO.callGuard (.bool (thermal_heat t)) rfl rfl rfl (by first | exact trivial | exact ⟨id, trivial⟩) rfl rfl (fun args w => Tryz.call82 args w) rfl (fun _ m' hle ρ w hs hok => thermal_heat_any _ w) ?_
  refine GO.more tfine rfl ?_ ?_
  · simp [AllP, condB]
  refine GO.callGuard (.bool (thermal_amount a)) rfl rfl rfl (by first | exact trivial | exact ⟨id, trivial⟩) rfl rfl (fun args w => Tryz.call83 args w) rfl (fun _ m' hle ρ w hs hok => thermal_amount_any _ w) ?_
  refine GO.more tfine rfl ?_ ?_
  · simp [AllP, condB]
  refine GO.callGuard (.bool (thermal_amount b)) rfl rfl rfl (by first | exact trivial | exact ⟨id, trivial⟩) rfl rfl (fun args w => Tryz.call83 args w) rfl (fun _ m' hle ρ w hs hok => thermal_amount_any _ w) ?_
  refine GO.fin tfine rfl ?_ ?_
  · simp [AllP, condB]
  refine G.cond rfl (fun h2 => ?_) (fun h2 => ?_)
  · refine G.seqR tfine rfl trivial ?_
    refine G.ret (endK.ret rfl ?_)
    rw [btw3, h1, h2]; rfl
  refine G.skip ?_
  refine G.seqR tfine rfl trivial ?_
  refine G.seqR tfine rfl trivial ?_
  refine G.seqDraw hmix [0, 0, 2, 0, 8, 31, 0, 0, 128, 0, 512, 2047, 4095, 0, 16383] [(5, 5), (5, 8), (11, 5), (11, 8), (14, 10)] rfl rfl rfl ?_
  refine GD.more tfine 0 rfl rfl trivial ?_
  refine GD.callTurn (v := I (thermal_To20 a rise t 1).1) [⟨5, 3, [I rise]⟩, ⟨8, 28, [I (worse 0 (thermal_To20 a rise t 1).2)]⟩] 5 rfl rfl rfl rfl rfl rfl (fun args w => Tryz.call84 args w) ?_ ?_ ?_
  · intro b hb
    simp only [List.mem_cons, List.not_mem_nil, or_false] at hb
    rcases hb with rfl | rfl <;> exact ⟨_, rfl⟩
  · intro m hle ρ w hs _
    have h5 : m 5 = some (.var 3 ([I rise].map .k)) := LeM.at hle rfl
    have h8 : m 8 = some (.var 28 ([I 0].map .k)) := LeM.at hle rfl
    have := end_any a t 1 rise 0 (ρ 5).1 (ρ 8).1 w (brs2 hs h5 h8 (by decide))
    have e : ([AV.c (.k (I a)), .c (.k (I t)), .c (.k (I 1))].map (AV.conc ρ) ++ [Cap.own 5 0, .own 8 0].map (Cap.conc ρ)).toArray = #[I a, I t, I 1, .pointer (some ⟨(ρ 5).1, 0, none⟩), .pointer (some ⟨(ρ 8).1, 0, none⟩)] := by
      simp [AV.conc, AC.conc, Cap.conc, (SatM.var hs h5).1, (SatM.var hs h8).1]
    refine e ▸ this.mono ?_
    rintro e w' ⟨rfl, hf, hn⟩
    refine ⟨rfl, hf, fun t ht => ?_⟩
    simp only [List.mem_cons, List.not_mem_nil, or_false] at ht
    rcases ht with rfl | rfl
    · exact hn _ (.head _) (ρ 5).1 (.head _)
    · exact hn _ (.tail _ (.head _)) (ρ 8).1 (.tail _ (.head _))
  refine GD.more tfine 6 rfl rfl trivial ?_
  refine GD.callTurn (v := I (thermal_To20 b rise s 2).1) [⟨5, 3, [I rise]⟩, ⟨8, 28, [I (worse (worse 0 (thermal_To20 a rise t 1).2) (thermal_To20 b rise s 2).2)]⟩] 11 rfl rfl rfl rfl rfl rfl (fun args w => Tryz.call84 args w) ?_ ?_ ?_
  · intro b hb
    simp only [List.mem_cons, List.not_mem_nil, or_false] at hb
    rcases hb with rfl | rfl <;> exact ⟨_, rfl⟩
  · intro m hle ρ w hs _
    have h5 : m 5 = some (.var 3 ([I rise].map .k)) := LeM.at hle rfl
    have h8 : m 8 = some (.var 28 ([I (worse 0 (thermal_To20 a rise t 1).2)].map .k)) := LeM.at hle rfl
    have := end_any b s 2 rise (worse 0 (thermal_To20 a rise t 1).2) (ρ 5).1 (ρ 8).1 w (brs2 hs h5 h8 (by decide))
    have e : ([AV.c (.k (I b)), .c (.k (I s)), .c (.k (I 2))].map (AV.conc ρ) ++ [Cap.own 5 0, .own 8 0].map (Cap.conc ρ)).toArray = #[I b, I s, I 2, .pointer (some ⟨(ρ 5).1, 0, none⟩), .pointer (some ⟨(ρ 8).1, 0, none⟩)] := by
      simp [AV.conc, AC.conc, Cap.conc, (SatM.var hs h5).1, (SatM.var hs h8).1]
    refine e ▸ this.mono ?_
    rintro e w' ⟨rfl, hf, hn⟩
    refine ⟨rfl, hf, fun t ht => ?_⟩
    simp only [List.mem_cons, List.not_mem_nil, or_false] at ht
    rcases ht with rfl | rfl
    · exact hn _ (.head _) (ρ 5).1 (.head _)
    · exact hn _ (.tail _ (.head _)) (ρ 8).1 (.tail _ (.head _))
  refine GD.fin tfine 12 rfl rfl trivial ?_
  refine G.seq (G.seqR tfine rfl trivial ?_)
  refine G.cond rfl (fun h3 => ?_) (fun h3 => ?_)
  · refine G.seqR tfine rfl trivial ?_
    refine G.ret (endK.ret rfl ?_)
    rw [btw3, h1, h2, h3]; rfl
  refine G.skip ?_
  refine G.seqR tfine rfl trivial ?_
  refine G.ret (endK.ret rfl ?_)
  rw [btw3, h1, h2, h3]; rfl
end Go.Proofs.YtphipfmidfoflaaGreat
/- Chapter 05: program and reference compute the same; the examples of the chapter hold. -/
set_option linter.unusedVariables false
set_option linter.unusedSimpArgs false
set_option maxRecDepth 8000
set_option maxHeartbeats 1000000
namespace Go.Proofs.YtphipfmidfoflaaGreat
open Go.Sx Go.RowKit
theorem cmp_api_Bounds : CmpT Tryz.prog 33 (Tryz.prog.fieldsOf 33) := ⟨by kernel_rfl, by kernel_rfl, by kernel_rfl, by kernel_rfl⟩
end Go.Proofs.YtphipfmidfoflaaGreat
/- The symbolic executor, part V: rows in blocks of our own: functions that answer one, calls of them, and calls that turn one. Generic over P. -/
set_option linter.unusedVariables false
set_option linter.unusedSimpArgs false
namespace Go.Sx
open Go.RowKit
/-- n elements of sz cells from the head of a block of cells of type ty. -/
def OwnAt (w : World) (b : Nat) (ty : TypeId) (n sz : Nat) (el : Nat → List Value) (room : Nat) : Prop :=
  ∃ a : Array Value, w.heap[b]? = some (.cells a ty (0, 0)) ∧ n * sz + room ≤ a.size ∧ ∀ i, i < n → (el i).length = sz ∧ ∀ j, j < sz → a[i * sz + j]? = (el i)[j]?
theorem OwnAt.congr {w : World} {b : Nat} {ty : TypeId} {n sz : Nat} {el el' : Nat → List Value} {room : Nat} (h : OwnAt w b ty n sz el room) (he : ∀ i, i < n → el i = el' i) : OwnAt w b ty n sz el' room := by
  obtain ⟨a, h1, h2, h3⟩ := h
  exact ⟨a, h1, h2, fun i hi => by rw [← he i hi]; exact h3 i hi⟩
theorem OwnAt.rd {w : World} {b : Nat} {ty : TypeId} {n sz : Nat} {el : Nat → List Value} {room : Nat} (h : OwnAt w b ty n sz el room) : b < w.heap.size ∧ ∀ i, i < n → (el i).length = sz ∧ ∀ j, j < sz → w.cell? ⟨b, 0 + (i * sz + j), none⟩ = (el i)[j]? := by
  obtain ⟨a, h1, h2, h3⟩ := h
  refine ⟨(Array.getElem?_eq_some_iff.1 h1).1, fun i hi => ⟨(h3 i hi).1, fun j hj => ?_⟩⟩
  rw [← (h3 i hi).2 j hj, Nat.zero_add]
  simp [World.cell?, h1]
section
variable {P : Program} {E : Env} {K : Exit → St → Prop} {T : Tab}
/-! ### Calls that turn a row of ours -/
end
end Go.Sx
/- The symbolic executor, part W: structs compared in regions that draw their order. Generic over P. -/
set_option linter.unusedVariables false
set_option linter.unusedSimpArgs false
namespace Go.Sx
open Go.RowKit
section
variable {P : Program} {E : Env} {K : Exit → St → Prop} {T : Tab} {l : List Oper} {cls : List Nat} {X0 : List (Nat × Nat)} {base : St}
end
end Go.Sx
/- Chapter 15: readings, right reports, and their difference. -/
set_option linter.unusedVariables false
set_option linter.unusedSimpArgs false
set_option maxRecDepth 8000
set_option maxHeartbeats 1000000
namespace Go.Proofs.YtphipfmidfoflaaGreat
open Go.Sx Go.RowKit
def gauge_in (x0 : Int) (x1 : Int) (x2 : Int) : Bool := ((decide (x0 ≥ x1)) && (decide (x0 ≤ x2)))
theorem gauge_in_any (x0 : Int) (x1 : Int) (x2 : Int) (w : World) : Calls Tryz.prog 47 #[I x0, I x1, I x2] w fun e w' => e = .returned (.bool (gauge_in x0 x1 x2)) ∧ Below w.heap.size w w' := by
  refine enterPlain tfine Tryz.func47 rfl 15 Tryz.ntmps47 [.c (.k (I x0)), .c (.k (I x1)), .c (.k (I x2))] [] rfl rfl trivial ⟨trivial, trivial, trivial, trivial⟩ ?_
  refine G.seqR tfine rfl ?_ ?_
  · first | trivial | (simp [AllP, condB]; done) | (simp only [AllP]; and_intros <;> first | trivial | decide | omega) | (simp [AllP, condB]; intros; and_intros <;> first | assumption | omega)
  refine G.seqR tfine rfl ?_ ?_
  · first | trivial | (simp [AllP, condB]; done) | (simp only [AllP]; and_intros <;> first | trivial | decide | omega) | (simp [AllP, condB]; intros; and_intros <;> first | assumption | omega)
  refine G.ret (endK.ret rfl ?_)
  first | (rw [gauge_in]; done) | (rw [gauge_in]; rfl)
def gauge_times (x0_0 : Int) (x0_1 : Int) (x1 : Int) : Int × Int := (IntKind.i64.wrap (x0_0 * x1), IntKind.i64.wrap (x0_1 * x1))
theorem gauge_times_any (x0_0 : Int) (x0_1 : Int) (x1 : Int) (w : World) : Calls Tryz.prog 49 #[.agg #[I x0_0, I x0_1], I x1] w fun e w' => e = .returned (.agg #[I ((gauge_times x0_0 x0_1 x1).1), I ((gauge_times x0_0 x0_1 x1).2)]) ∧ Below w.heap.size w w' := by
  refine enterPlain tfine Tryz.func49 rfl 14 Tryz.ntmps49 [.agg [.k (I x0_0), .k (I x0_1)], .c (.k (I x1))] [] rfl rfl trivial ⟨⟨trivial, trivial, trivial⟩, trivial, trivial⟩ ?_
  refine G.seqR tfine rfl ?_ ?_
  · first | trivial | (simp [AllP, condB]; done) | (simp only [AllP]; and_intros <;> first | trivial | decide | omega) | (simp [AllP, condB]; intros; and_intros <;> first | assumption | omega)
  refine G.seqR tfine rfl ?_ ?_
  · first | trivial | (simp [AllP, condB]; done) | (simp only [AllP]; and_intros <;> first | trivial | decide | omega) | (simp [AllP, condB]; intros; and_intros <;> first | assumption | omega)
  refine G.ret (endK.ret rfl ?_)
  first | (rw [gauge_times]; done) | (rw [gauge_times]; rfl)
def gauge_Check (x0_0 : Int) (x0_1 : Int) (x0_2 : Int) (x0_3 : Int) : Int := if ((((!(gauge_in x0_0 (0 : Int) (100000 : Int))) || (!(gauge_in x0_1 (0 : Int) (200000 : Int)))) || (!(gauge_in x0_2 (-400 : Int) (600 : Int)))) || (!(gauge_in x0_3 (0 : Int) (10000 : Int)))) = true then ((2 : Int)) else ((0 : Int))
theorem gauge_Check_any (x0_0 : Int) (x0_1 : Int) (x0_2 : Int) (x0_3 : Int) (w : World) : Calls Tryz.prog 46 #[.agg #[I x0_0, I x0_1, I x0_2, I x0_3]] w fun e w' => e = .returned (I (gauge_Check x0_0 x0_1 x0_2 x0_3)) ∧ Below w.heap.size w w' := by
  refine enterPlain tfine Tryz.func46 rfl 25 Tryz.ntmps46 [.agg [.k (I x0_0), .k (I x0_1), .k (I x0_2), .k (I x0_3)]] [] rfl rfl trivial ⟨⟨trivial, trivial, trivial, trivial, trivial⟩, trivial⟩ ?_
  refine G.seqR tfine rfl ?_ ?_
  · first | trivial | (simp [AllP, condB]; done) | (simp only [AllP]; and_intros <;> first | trivial | decide | omega) | (simp [AllP, condB]; intros; and_intros <;> first | assumption | omega)
  refine G.seq ?_
  refine G.seqC tfine rfl ?_ ?_
  · first | trivial | (simp [AllP, condB]; done) | (simp only [AllP]; and_intros <;> first | trivial | decide | omega) | (simp [AllP, condB]; intros; and_intros <;> first | assumption | omega)
  refine GO.callPlain (v := .bool (gauge_in x0_0 (0 : Int) (100000 : Int)))  rfl rfl rfl rfl (fun args w => Tryz.call47 args w) (fun ρ w hm _ => gauge_in_any _ _ _ w) ?_
  refine GO.more tfine rfl ?_ ?_
  · first | trivial | (simp [AllP, condB]; done) | (simp only [AllP]; and_intros <;> first | trivial | decide | omega) | (simp [AllP, condB]; intros; and_intros <;> first | assumption | omega)
  refine GO.callGuard (.bool (gauge_in x0_1 (0 : Int) (200000 : Int))) rfl rfl rfl (by first | exact trivial | exact ⟨id, trivial⟩ | exact ⟨id, id, trivial⟩ | exact ⟨id, id, id, trivial⟩ | exact ⟨id, id, id, id, trivial⟩) rfl rfl (fun args w => Tryz.call47 args w) rfl (fun _ m' hle ρ w hs hok => gauge_in_any _ _ _ w) ?_
  refine GO.more tfine rfl ?_ ?_
  · first | trivial | (simp [AllP, condB]; done) | (simp only [AllP]; and_intros <;> first | trivial | decide | omega) | (simp [AllP, condB]; intros; and_intros <;> first | assumption | omega)
  refine GO.callGuard (.bool (gauge_in x0_2 (-400 : Int) (600 : Int))) rfl rfl rfl (by first | exact trivial | exact ⟨id, trivial⟩ | exact ⟨id, id, trivial⟩ | exact ⟨id, id, id, trivial⟩ | exact ⟨id, id, id, id, trivial⟩) rfl rfl (fun args w => Tryz.call47 args w) rfl (fun _ m' hle ρ w hs hok => gauge_in_any _ _ _ w) ?_
  refine GO.more tfine rfl ?_ ?_
  · first | trivial | (simp [AllP, condB]; done) | (simp only [AllP]; and_intros <;> first | trivial | decide | omega) | (simp [AllP, condB]; intros; and_intros <;> first | assumption | omega)
  refine GO.callGuard (.bool (gauge_in x0_3 (0 : Int) (10000 : Int))) rfl rfl rfl (by first | exact trivial | exact ⟨id, trivial⟩ | exact ⟨id, id, trivial⟩ | exact ⟨id, id, id, trivial⟩ | exact ⟨id, id, id, id, trivial⟩) rfl rfl (fun args w => Tryz.call47 args w) rfl (fun _ m' hle ρ w hs hok => gauge_in_any _ _ _ w) ?_
  refine GO.fin tfine rfl ?_ ?_
  · first | trivial | (simp [AllP, condB]; done) | (simp only [AllP]; and_intros <;> first | trivial | decide | omega) | (simp [AllP, condB]; intros; and_intros <;> first | assumption | omega)
  refine G.cond rfl (fun h1 => ?_) (fun h1 => ?_)
  · refine G.seqR tfine rfl ?_ ?_
    · first | trivial | (simp [AllP, condB]; done) | (simp only [AllP]; and_intros <;> first | trivial | decide | omega) | (simp [AllP, condB]; intros; and_intros <;> first | assumption | omega)
    refine G.ret (endK.ret rfl ?_)
    first | (rw [gauge_Check, if_pos h1]; done) | (rw [gauge_Check, if_pos h1]; rfl)
  refine G.skip ?_
  refine G.seqR tfine rfl ?_ ?_
  · first | trivial | (simp [AllP, condB]; done) | (simp only [AllP]; and_intros <;> first | trivial | decide | omega) | (simp [AllP, condB]; intros; and_intros <;> first | assumption | omega)
  refine G.ret (endK.ret rfl ?_)
  first | (rw [gauge_Check, if_neg (fne h1)]; done) | (rw [gauge_Check, if_neg (fne h1)]; rfl)
def dip_volume (x0 : Int) : Bool := ((decide (x0 ≥ (0 : Int))) && (decide (x0 ≤ (4294967296 : Int))))
theorem dip_volume_any (x0 : Int) (w : World) : Calls Tryz.prog 75 #[I x0] w fun e w' => e = .returned (.bool (dip_volume x0)) ∧ Below w.heap.size w w' := by
  refine enterPlain tfine Tryz.func75 rfl 9 Tryz.ntmps75 [.c (.k (I x0))] [] rfl rfl trivial ⟨trivial, trivial⟩ ?_
  refine G.seqR tfine rfl ?_ ?_
  · first | trivial | (simp [AllP, condB]; done) | (simp only [AllP]; and_intros <;> first | trivial | decide | omega) | (simp [AllP, condB]; intros; and_intros <;> first | assumption | omega)
  refine G.seqR tfine rfl ?_ ?_
  · first | trivial | (simp [AllP, condB]; done) | (simp only [AllP]; and_intros <;> first | trivial | decide | omega) | (simp [AllP, condB]; intros; and_intros <;> first | assumption | omega)
  refine G.ret (endK.ret rfl ?_)
  first | (rw [dip_volume]; done) | (rw [dip_volume]; rfl)
def dip_Check_1 (x0_0 : Int) (x0_1 : Int) : Bool := (((decide (x0_0 < (0 : Int))) || (decide (x0_0 > (200000 : Int)))) || (!(dip_volume x0_1)))
theorem dip_Check_1_any (x0_0 : Int) (x0_1 : Int) (w : World) : Calls Tryz.prog 77 #[.agg #[I x0_0, I x0_1]] w fun e w' => e = .returned (.bool (dip_Check_1 x0_0 x0_1)) ∧ Below w.heap.size w w' := by
  refine enterPlain tfine Tryz.func77 rfl 17 Tryz.ntmps77 [.agg [.k (I x0_0), .k (I x0_1)]] [] rfl rfl trivial ⟨⟨trivial, trivial, trivial⟩, trivial⟩ ?_
  refine G.seqR tfine rfl ?_ ?_
  · first | trivial | (simp [AllP, condB]; done) | (simp only [AllP]; and_intros <;> first | trivial | decide | omega) | (simp [AllP, condB]; intros; and_intros <;> first | assumption | omega)
  refine G.seqC tfine rfl ?_ ?_
  · first | trivial | (simp [AllP, condB]; done) | (simp only [AllP]; and_intros <;> first | trivial | decide | omega) | (simp [AllP, condB]; intros; and_intros <;> first | assumption | omega)
  refine GO.callGuard (.bool (dip_volume x0_1)) rfl rfl rfl (by first | exact trivial | exact ⟨id, trivial⟩ | exact ⟨id, id, trivial⟩ | exact ⟨id, id, id, trivial⟩ | exact ⟨id, id, id, id, trivial⟩) rfl rfl (fun args w => Tryz.call75 args w) rfl (fun _ m' hle ρ w hs hok => dip_volume_any _ w) ?_
  refine GO.fin tfine rfl ?_ ?_
  · first | trivial | (simp [AllP, condB]; done) | (simp only [AllP]; and_intros <;> first | trivial | decide | omega) | (simp [AllP, condB]; intros; and_intros <;> first | assumption | omega)
  refine G.ret (endK.ret rfl ?_)
  first | (rw [dip_Check_1]; done) | (rw [dip_Check_1]; rfl)
end Go.Proofs.YtphipfmidfoflaaGreat
/- The symbolic executor, part X: closures that read one captured variable (which may hold a slice that came in). Generic over P. -/
set_option linter.unusedVariables false
set_option linter.unusedSimpArgs false
namespace Go.Sx
open Go.RowKit
section
variable {P : Program} {T : Tab}
end
end Go.Sx
/- Chapter 15: rows of marks and of reports; the table's faults. -/
set_option linter.unusedVariables false
set_option linter.unusedSimpArgs false
set_option maxRecDepth 8000
set_option maxHeartbeats 1000000
namespace Go.Proofs.YtphipfmidfoflaaGreat
open Go.Sx Go.RowKit
def elM (l : List (Int × Int)) (i : Nat) : List Value := [I (l.getD i (0, 0)).1, I (l.getD i (0, 0)).2]
theorem indexFuncM_any (f : FuncId) (q : (Int × Int) → Bool) (hcf : ∀ args w, (callFunc f args).run Tryz.prog w = .ok (.enter f args) w)
    (hf : ∀ v w, Calls Tryz.prog f #[.agg #[I v.1, I v.2]] w fun e w' => e = .returned (.bool (q v)) ∧ Below w.heap.size w w') (A : Option Addr) (c : Nat) (l : List (Int × Int)) (w : World) (hl : RdRow w A l.length 2 (elM l)) (hm : l.length ≤ 4611686018427387904) :
    Calls Tryz.prog 107 #[.slice A l.length c, .func (.func f) #[] #[]] w fun e w' => e = .returned (I (firstI (fun k => q (l.getD k (0, 0))) 0 l.length)) ∧ Below w.heap.size w w' := by
  refine enterPlain tfine Tryz.func107 rfl 19 Tryz.ntmps107 [.c (.inp 1000 A l.length c), .c (.k (.func (.func f) #[] #[]))] [⟨1000, A, 2, l.length, elM l⟩] rfl rfl ⟨hl, trivial⟩ ⟨.inl ⟨rfl, rfl, rfl⟩, trivial, trivial⟩ ?_
  refine G.seqR tfine rfl trivial ?_
  refine G.seq (G.seqR tfine rfl trivial ?_)
  refine G.block (G.loop (fun k : Nat => St.of [(0, .v (.c (.inp 1000 A l.length c))), (1, .v (.c (.k (.func (.func f) #[] #[])))), (7, .v (.c (.k (I l.length)))), (8, .v (.c (.k (I k))))] [(1000, .ro 2 l.length (elM l))])
    (fun k => k ≤ l.length ∧ firstI (fun k => q (l.getD k (0, 0))) 0 l.length = firstI (fun k => q (l.getD k (0, 0))) k (l.length - k)) (fun k => l.length - k) 0 ⟨by omega, by simp⟩ (St.le_of rfl ⟨⟨_, rfl, Blk.le_refl _⟩, trivial⟩ ⟨rfl, rfl, rfl, rfl, trivial⟩) ?_)
  rintro k ⟨hk, hfi⟩
  refine G.seqR tfine rfl trivial ?_
  refine G.seq (G.cond rfl (fun h => ?_) (fun h => ?_))
  rotate_left
  · have h := of_decide_eq_false h
    have : k = l.length := by omega
    subst this
    refine G.exit ?_
    refine G.seqR tfine rfl trivial ?_
    refine G.ret (endK.ret rfl ?_)
    rw [hfi]
    simp [firstI]
  have h := of_decide_eq_true h
  have hlt : k < l.length := by omega
  refine G.skip ?_
  refine G.seq (G.block ?_)
  refine G.seqR tfine rfl trivial ?_
  refine G.seqC tfine rfl ⟨by simpa using hlt, by omega, by omega, trivial⟩ ?_
  rw [Int.toNat_natCast]
  refine GO.callPlain rfl rfl rfl rfl hcf (fun ρ w hm _ => hf _ w) (GO.nil ?_)
  have hs : l.length - k = (l.length - (k + 1)) + 1 := by omega
  rw [hs, firstI] at hfi
  refine G.cond rfl (fun h2 => ?_) (fun h2 => ?_)
  · refine G.seqR tfine rfl trivial ?_
    refine G.ret (endK.ret rfl ?_)
    rw [hfi, if_pos h2]
  · refine G.skip ?_
    refine G.reg tfine rfl trivial ?_
    rw [IntWalk.i64_in _ (by omega)]
    rw [if_neg (by simpa using h2)] at hfi
    exact ⟨k + 1, ⟨by omega, hfi⟩, (by show l.length - (k + 1) < l.length - k; omega), St.le_of rfl ⟨⟨_, rfl, Blk.le_refl _⟩, trivial⟩ ⟨rfl, rfl, rfl, by simp [up, I], trivial⟩⟩
theorem containsFuncM_any (f : FuncId) (q : (Int × Int) → Bool) (hcf : ∀ args w, (callFunc f args).run Tryz.prog w = .ok (.enter f args) w)
    (hf : ∀ v w, Calls Tryz.prog f #[.agg #[I v.1, I v.2]] w fun e w' => e = .returned (.bool (q v)) ∧ Below w.heap.size w w') (A : Option Addr) (c : Nat) (l : List (Int × Int)) (w : World) (hl : RdRow w A l.length 2 (elM l)) (hm : l.length ≤ 4611686018427387904) :
    Calls Tryz.prog 76 #[.slice A l.length c, .func (.func f) #[] #[]] w fun e w' => e = .returned (.bool (decide (firstI (fun k => q (l.getD k (0, 0))) 0 l.length ≥ 0))) ∧ Below w.heap.size w w' := by
  refine enterPlain tfine Tryz.func76 rfl 9 Tryz.ntmps76 [.c (.inp 1000 A l.length c), .c (.k (.func (.func f) #[] #[]))] [⟨1000, A, 2, l.length, elM l⟩] rfl rfl ⟨hl, trivial⟩ ⟨.inl ⟨rfl, rfl, rfl⟩, trivial, trivial⟩ ?_
  refine G.seqR tfine rfl trivial ?_
  refine G.seqC tfine rfl trivial ?_
  refine GO.callPlain rfl rfl rfl rfl (fun args w => Tryz.call107 args w) (fun ρ w hs hok => indexFuncM_any f q hcf hf A c l w (hs.row rfl (hok _ List.mem_cons_self)) hm) ?_
  refine GO.fin tfine rfl trivial ?_
  exact G.ret (endK.ret rfl rfl)
theorem any_getDg {α : Type} (q : α → Bool) (l : List α) (d : α) : (List.range' 0 l.length).any (fun k => q (l.getD k d)) = l.any q := by
  have : l.map q = (List.range' 0 l.length).map (fun k => q (l.getD k d)) := by
    apply List.ext_getElem?
    intro i
    rw [List.getElem?_map, List.getElem?_map]
    by_cases h : i < l.length
    · rw [List.getElem?_range' h, List.getElem?_eq_getElem h]
      simp [List.getD_eq_getElem?_getD, h]
    · rw [List.getElem?_eq_none (by omega), List.getElem?_eq_none (by simp; omega)]
      rfl
  have h2 : ∀ (l : List α), l.any q = (l.map q).any id := by intro l; simp [List.any_map]
  rw [h2, this]
  simp [List.any_map]
theorem getD_mem {α : Type} {l : List α} {k : Nat} {d : α} (h : k < l.length) : l.getD k d ∈ l := by
  rw [List.getD_eq_getElem?_getD, List.getElem?_eq_getElem h]; exact List.getElem_mem h
def badM (m : Int × Int) : Bool := dip_Check_1 m.1 m.2
def badP (a b : Int × Int) : Bool := (decide (a.1 ≥ b.1)) || (decide (a.2 > b.2))
def badPs (l : List (Int × Int)) : Bool := (List.range' 1 (l.length - 1)).any fun k => badP (l.getD (k - 1) (0, 0)) (l.getD k (0, 0))
theorem badPs_true {l : List (Int × Int)} {k : Nat} (h1 : 1 ≤ k) (h2 : k < l.length) (h : badP (l.getD (k - 1) (0, 0)) (l.getD k (0, 0)) = true) : badPs l = true :=
  List.any_eq_true.2 ⟨k, by rw [List.mem_range'_1]; omega, h⟩
theorem badPs_false {l : List (Int × Int)} (h : ∀ k, 1 ≤ k → k < l.length → badP (l.getD (k - 1) (0, 0)) (l.getD k (0, 0)) = false) : badPs l = false := by
  rw [badPs, List.any_eq_false]
  intro k hk
  rw [List.mem_range'_1] at hk
  rw [h k hk.1 (by omega)]
  simp
def tabE (l : List (Int × Int)) (tol : Int) : Int := if decide ((l.length : Int) < 2) = true then 9 else if decide ((l.length : Int) > 128) = true then 8 else if (!(dip_volume tol) || l.any badM) = true then 2 else if badPs l = true then 5 else 0
theorem dipCheck_any (A : Option Addr) (c : Nat) (l : List (Int × Int)) (tol : Int) (w : World) (hl : RdRow w A l.length 2 (elM l)) (hm : l.length ≤ 4611686018427387904) :
    Calls Tryz.prog 42 #[.agg #[.slice A l.length c, I tol]] w fun e w' => e = .returned (I (tabE l tol)) ∧ Below w.heap.size w w' := by
  refine enterPlain tfine Tryz.func42 rfl 53 Tryz.ntmps42 [.agg [.inp 1000 A l.length c, .k (I tol)]] [⟨1000, A, 2, l.length, elM l⟩] rfl rfl ⟨hl, trivial⟩ ⟨⟨.inl ⟨rfl, rfl, rfl⟩, trivial, trivial⟩, trivial⟩ ?_
  refine G.seqR tfine rfl trivial ?_
  refine G.seq (G.seqR tfine rfl trivial ?_)
  refine G.cond rfl (fun h1 => ?_) (fun h1 => ?_)
  · refine G.seqR tfine rfl trivial ?_
    refine G.ret (endK.ret rfl ?_)
    rw [tabE, if_pos h1]
  refine G.skip ?_
  refine G.seq (G.seqR tfine rfl trivial ?_)
  refine G.cond rfl (fun h2 => ?_) (fun h2 => ?_)
  · refine G.seqR tfine rfl trivial ?_
    refine G.ret (endK.ret rfl ?_)
    rw [tabE, if_neg (fne h1), if_pos h2]
  refine G.skip ?_
  refine G.seq (G.seqC tfine rfl trivial ?_)
  refine GO.callPlain (v := .bool (dip_volume tol)) rfl rfl rfl rfl (fun args w => Tryz.call75 args w) (fun ρ w hm _ => dip_volume_any _ w) ?_
  refine GO.more tfine rfl ?_ ?_
  · simp [AllP, condB]
  refine GO.callGuard (.bool (l.any badM)) rfl rfl rfl (by first | exact trivial | exact ⟨id, trivial⟩) rfl rfl (fun args w => Tryz.call76 args w) rfl (fun _ m' hle ρ w hs hok => ?_) ?_
  · have := containsFuncM_any 77 badM (fun args w => Tryz.call77 args w) (fun v w => dip_Check_1_any v.1 v.2 w) A c l w (hs.row (hle.at rfl) (hok _ List.mem_cons_self)) hm
    rw [firstI_any, any_getDg] at this
    exact this
  refine GO.fin tfine rfl ?_ ?_
  · simp [AllP, condB]
  refine G.cond rfl (fun h3 => ?_) (fun h3 => ?_)
  · refine G.seqR tfine rfl trivial ?_
    refine G.ret (endK.ret rfl ?_)
    rw [tabE, if_neg (fne h1), if_neg (fne h2), if_pos h3]
  refine G.skip ?_
  have h1' := of_decide_eq_false h1
  have h2' := of_decide_eq_false h2
  refine G.seq (G.seqR tfine rfl trivial ?_)
  refine G.block (G.loop (fun k : Nat => St.of [(1, .v (.c (.ptr 1 0 0 0))), (3, .v (.c (.k (I k))))] [(1, .var 47 [.inp 1000 A l.length c, .k (I tol)]), (1000, .ro 2 l.length (elM l))])
    (fun k => 1 ≤ k ∧ k ≤ l.length ∧ ∀ j, 1 ≤ j → j < k → badP (l.getD (j - 1) (0, 0)) (l.getD j (0, 0)) = false) (fun k => l.length - k) 1 ⟨Nat.le_refl _, by omega, fun j h4 h5 => by omega⟩
    (St.le_of rfl ⟨⟨_, rfl, Blk.le_refl _⟩, ⟨_, rfl, Blk.le_refl _⟩, trivial⟩ ⟨rfl, rfl, trivial⟩) ?_)
  rintro k ⟨hk1, hk2, hpre⟩
  refine G.seq (G.seqR tfine rfl trivial ?_)
  refine G.cond rfl (fun h => ?_) (fun h => ?_)
  rotate_left
  · have h := of_decide_eq_false h
    refine G.exit ?_
    refine G.seqR tfine rfl trivial ?_
    refine G.ret (endK.ret rfl ?_)
    rw [tabE, if_neg (fne h1), if_neg (fne h2), if_neg (fne h3), badPs_false fun j h4 h5 => hpre j h4 (by omega)]
    rfl
  have h := of_decide_eq_true h
  have hlt : k < l.length := by omega
  have e1 : IntKind.i64.wrap ((k : Int) - 1) = (k : Int) - 1 := IntWalk.i64_in _ (by omega)
  have e2 : ((k : Int) - 1).toNat = k - 1 := by omega
  refine G.skip ?_
  refine G.seq (G.block ?_)
  refine G.seqD tfine hmix [0, 1, 0, 4, 15, 31, 0, 64, 0, 448, 960, 0, 0, 6207, 16383] [(13, 4), (14, 5)] rfl rfl rfl rfl ?_ ?_
  · rw [e1]
    simp [AllP]
    omega
  rw [e1, e2, Int.toNat_natCast]
  refine G.seqR tfine rfl ?_ ?_
  · simp [AllP, condB]
  refine G.cond (b := badP (l.getD (k - 1) (0, 0)) (l.getD k (0, 0))) rfl (fun h6 => ?_) (fun h6 => ?_)
  · refine G.seqR tfine rfl trivial ?_
    refine G.ret (endK.ret rfl ?_)
    rw [tabE, if_neg (fne h1), if_neg (fne h2), if_neg (fne h3), badPs_true hk1 hlt h6]
    rfl
  refine G.skip ?_
  refine G.reg tfine rfl trivial ?_
  rw [IntWalk.i64_in ((k : Int) + 1) (by omega)]
  refine ⟨k + 1, ⟨by omega, hlt, fun j h7 h8 => ?_⟩, (by show l.length - (k + 1) < l.length - k; omega), St.le_of rfl ⟨⟨_, rfl, Blk.le_refl _⟩, ⟨_, rfl, Blk.le_refl _⟩, trivial⟩ ⟨rfl, rfl, trivial⟩⟩
  by_cases e : j = k
  · rw [e]; exact h6
  · exact hpre j h7 (by omega)
end Go.Proofs.YtphipfmidfoflaaGreat
/- Chapter 15: the reference's check of a table, the reading, and the wet volume. -/
set_option linter.unusedVariables false
set_option linter.unusedSimpArgs false
set_option maxRecDepth 8000
set_option maxHeartbeats 1000000
namespace Go.Proofs.YtphipfmidfoflaaGreat
open Go.Sx Go.RowKit
def badM2 (m : Int × Int) : Bool := (((decide (m.1 < 0)) || (decide (m.1 > 200000))) || (decide (m.2 < 0))) || (decide (m.2 > 4294967296))
theorem badM2_eq (m : Int × Int) : badM2 m = badM m := by
  rw [Bool.eq_iff_iff]
  simp [badM2, badM, dip_Check_1, dip_volume]
  omega
theorem tabE_ok {l : List (Int × Int)} {tol : Int} (h : tabE l tol = 0) : 2 ≤ l.length ∧ l.length ≤ 128 ∧ (0 ≤ tol ∧ tol ≤ 4294967296) ∧ (∀ j, j < l.length → (0 ≤ (l.getD j (0, 0)).1 ∧ (l.getD j (0, 0)).1 ≤ 200000) ∧ (0 ≤ (l.getD j (0, 0)).2 ∧ (l.getD j (0, 0)).2 ≤ 4294967296)) ∧
    ∀ k, 1 ≤ k → k < l.length → (l.getD (k - 1) (0, 0)).1 < (l.getD k (0, 0)).1 ∧ (l.getD (k - 1) (0, 0)).2 ≤ (l.getD k (0, 0)).2 := by
  unfold tabE at h
  split at h
  · cases h
  rename_i h1
  split at h
  · cases h
  rename_i h2
  split at h
  · cases h
  rename_i h3
  split at h
  · cases h
  rename_i h4
  simp only [decide_eq_true_eq] at h1 h2
  simp only [Bool.or_eq_true, not_or, Bool.not_eq_true', Bool.not_eq_false, Bool.not_eq_true] at h3
  have ht : 0 ≤ tol ∧ tol ≤ 4294967296 := by simpa [dip_volume] using h3.1
  refine ⟨by omega, by omega, ht, fun j hj => ?_, fun k h5 h6 => ?_⟩
  · have := List.any_eq_false.1 h3.2 _ (getD_mem (d := (0, 0)) hj)
    rw [← badM2_eq] at this
    simp [badM2, -List.getD_eq_getElem?_getD] at this
    omega
  · have : badP (l.getD (k - 1) (0, 0)) (l.getD k (0, 0)) = false := by
      cases hb : badP (l.getD (k - 1) (0, 0)) (l.getD k (0, 0)) with
      | false => rfl
      | true => exact absurd (badPs_true h5 h6 hb) h4
    simp [badP, -List.getD_eq_getElem?_getD] at this
    omega
/-! ### The reading -/
theorem read1_any (A : Option Addr) (c : Nat) (l : List (Int × Int)) (tol h : Int) (w : World) (hl : RdRow w A l.length 2 (elM l)) (hz : tabE l tol = 0) (hh : h ≤ (l.getD (l.length - 1) (0, 0)).1) :
    Calls Tryz.prog 80 #[.agg #[.slice A l.length c, I tol], I h] w fun e w' => ∃ v, e = .returned v ∧ (∃ z, v = I z) ∧ Below w.heap.size w w' := by
  obtain ⟨q1, q2, q3, q4, q5⟩ := tabE_ok hz
  refine enterProp tfine (fun v => ∃ z, v = I z) Tryz.func80 rfl 48 Tryz.ntmps80 [.agg [.inp 1000 A l.length c, .k (I tol)], .c (.k (I h))] [⟨1000, A, 2, l.length, elM l⟩] rfl rfl ⟨hl, trivial⟩ ⟨⟨.inl ⟨rfl, rfl, rfl⟩, trivial, trivial⟩, trivial, trivial⟩ ?_
  refine G.seqR tfine rfl trivial ?_
  refine G.seqR tfine rfl trivial ?_
  refine G.seq (G.block (G.loop (fun k : Nat => St.of [(1, .v (.c (.k (I h)))), (2, .v (.c (.ptr 2 0 0 0))), (5, .v (.c (.k (I k))))] [(2, .var 47 [.inp 1000 A l.length c, .k (I tol)]), (1000, .ro 2 l.length (elM l))])
    (fun k => 1 ≤ k ∧ k < l.length) (fun k => l.length - k) 1 ⟨Nat.le_refl _, by omega⟩
    (St.le_of rfl ⟨⟨_, rfl, Blk.le_refl _⟩, ⟨_, rfl, Blk.le_refl _⟩, trivial⟩ ⟨rfl, rfl, rfl, trivial⟩) ?_))
  rintro k ⟨hk1, hk2⟩
  have e1 : IntKind.i64.wrap ((k : Int) - 1) = (k : Int) - 1 := IntWalk.i64_in _ (by omega)
  have e2 : ((k : Int) - 1).toNat = k - 1 := by omega
  refine G.seq (G.seqR tfine rfl ?_ ?_)
  · simp [AllP]; omega
  rw [Int.toNat_natCast]
  refine G.cond rfl (fun h6 => ?_) (fun h6 => ?_)
  · have h6 := of_decide_eq_true h6
    refine G.skip ?_
    refine G.block ?_
    refine G.reg tfine rfl trivial ?_
    rw [IntWalk.i64_in ((k : Int) + 1) (by omega)]
    have : k ≠ l.length - 1 := fun e => by rw [← e] at hh; omega
    exact ⟨k + 1, ⟨by omega, by omega⟩, (by show l.length - (k + 1) < l.length - k; omega), St.le_of rfl ⟨⟨_, rfl, Blk.le_refl _⟩, ⟨_, rfl, Blk.le_refl _⟩, trivial⟩ ⟨rfl, rfl, rfl, trivial⟩⟩
  refine G.exit ?_
  refine G.seqD tfine hmix [0, 1, 0, 4, 15, 31, 0, 64, 0, 448, 960, 0, 0, 6207, 16383] [(13, 6), (14, 7)] rfl rfl rfl rfl ?_ ?_
  · rw [e1]
    simp [AllP]
    omega
  rw [e1, e2, Int.toNat_natCast]
  have hd := q5 k hk1 hk2
  have m1 := (q4 k hk2).1
  have m2 := (q4 (k - 1) (by omega)).1
  refine G.seqD tfine hmix [0, 1, 0, 4, 0, 16, 60, 0, 0, 256, 896, 2044, 0, 4096, 0, 16384, 61440, 131068, 262143, 524287] [] rfl rfl rfl rfl ?_ ?_
  · simp only [AllP, and_true]
    rw [IntWalk.i64_in ((l.getD k (0, 0)).1 - (l.getD (k - 1) (0, 0)).1) (by omega)]
    omega
  exact G.ret (endKp.ret rfl ⟨_, rfl⟩)
def outR (l : List (Int × Int)) (h : Int) : Bool := (decide (h < (l.getD 0 (0, 0)).1)) || (decide (h > (l.getD (l.length - 1) (0, 0)).1))
def readE (l : List (Int × Int)) (tol h : Int) : Int := if (tabE l tol != 0) = true then 1 else if outR l h = true then 2 else 0
theorem read_any (A : Option Addr) (c : Nat) (l : List (Int × Int)) (tol h : Int) (w : World) (hl : RdRow w A l.length 2 (elM l)) (hm : l.length ≤ 4611686018427387904) :
    Calls Tryz.prog 44 #[.agg #[.slice A l.length c, I tol], I h] w fun e w' => ∃ v, e = .returned v ∧ (∃ z, v = .tuple #[I z, I (readE l tol h)]) ∧ Below w.heap.size w w' := by
  refine enterProp tfine (fun v => ∃ z, v = .tuple #[I z, I (readE l tol h)]) Tryz.func44 rfl 32 Tryz.ntmps44 [.agg [.inp 1000 A l.length c, .k (I tol)], .c (.k (I h))] [⟨1000, A, 2, l.length, elM l⟩] rfl rfl ⟨hl, trivial⟩ ⟨⟨.inl ⟨rfl, rfl, rfl⟩, trivial, trivial⟩, trivial, trivial⟩ ?_
  refine G.seqR tfine rfl trivial ?_
  refine G.seq (G.seqC tfine rfl trivial ?_)
  refine GO.callPlain (v := I (tabE l tol)) rfl rfl rfl rfl (fun args w => Tryz.call42 args w) (fun ρ w hs hok => dipCheck_any A c l tol w (hs.row (cap := c) rfl (hok _ List.mem_cons_self _ List.mem_cons_self)) hm) ?_
  refine GO.fin tfine rfl trivial ?_
  refine G.cond rfl (fun h1 => ?_) (fun h1 => ?_)
  · refine G.seqR tfine rfl trivial ?_
    refine G.ret (endKp.ret rfl ⟨0, ?_⟩)
    rw [readE, if_pos h1]
  refine G.skip ?_
  have hz : tabE l tol = 0 := by simpa using h1
  obtain ⟨q1, q2, q3, q4, q5⟩ := tabE_ok hz
  have e1 : IntKind.i64.wrap ((l.length : Int) - 1) = (l.length : Int) - 1 := IntWalk.i64_in _ (by omega)
  have e2 : ((l.length : Int) - 1).toNat = l.length - 1 := by omega
  refine G.seq (G.seqR tfine rfl ?_ ?_)
  · rw [e1]
    simp [AllP, condB]
    omega
  rw [e1, e2]
  refine G.cond (b := outR l h) rfl (fun h2 => ?_) (fun h2 => ?_)
  · refine G.seqR tfine rfl trivial ?_
    refine G.ret (endKp.ret rfl ⟨0, ?_⟩)
    rw [readE, if_neg (fne h1), if_pos h2]
  refine G.skip ?_
  have h2' : ¬ h < (l.getD 0 (0, 0)).1 ∧ ¬ h > (l.getD (l.length - 1) (0, 0)).1 := by simpa [outR] using h2
  refine G.seqC tfine rfl trivial ?_
  refine GO.callEx (fun v => ∃ z, v = I z) rfl rfl rfl rfl (fun args w => Tryz.call80 args w) (fun ρ w hs hok => read1_any A c l tol h w (hs.row (cap := c) rfl (hok _ List.mem_cons_self _ List.mem_cons_self)) hz (by omega)) ?_
  rintro _ ⟨z, rfl⟩
  refine GO.fin tfine rfl trivial ?_
  refine G.ret (endKp.ret rfl ⟨z, ?_⟩)
  rw [readE, if_neg (fne h1), if_neg (fne h2)]
end Go.Proofs.YtphipfmidfoflaaGreat
/- Chapter 15: the bounds of the wet volume. -/
set_option linter.unusedVariables false
set_option linter.unusedSimpArgs false
set_option maxRecDepth 8000
set_option maxHeartbeats 1000000
namespace Go.Proofs.YtphipfmidfoflaaGreat
open Go.Sx Go.RowKit
def idx (l : List (Int × Int)) (h : Int) : Nat := l.findIdx fun m => decide (m.1 ≥ h)
theorem idx_of {l : List (Int × Int)} {h : Int} {k : Nat} (hk : k < l.length) (h1 : h ≤ (l.getD k (0, 0)).1) (h2 : ∀ j, j < k → (l.getD j (0, 0)).1 < h) : idx l h = k := by
  have e : ∀ j (hj : j < l.length), l.getD j (0, 0) = l[j] := fun j hj => by rw [List.getD_eq_getElem?_getD, List.getElem?_eq_getElem hj]; rfl
  rw [e k hk] at h1
  have hlt : idx l h < l.length := List.findIdx_lt_length_of_exists ⟨l[k], List.getElem_mem hk, by simpa using h1⟩
  rcases Nat.lt_trichotomy (idx l h) k with h3 | h3 | h3
  · have h4 := h2 _ h3
    rw [e _ hlt] at h4
    have := List.findIdx_getElem (p := fun m : Int × Int => decide (m.1 ≥ h)) (w := hlt)
    have := of_decide_eq_true this
    simp only [idx] at h4
    omega
  · exact h3
  · have := List.not_of_lt_findIdx h3
    simp at this
    omega
def wet3 (l : List (Int × Int)) (tol h : Int) : Int × Int × Int := if (readE l tol h != 0) = true then (0, 0, readE l tol h) else ((if (l.getD (idx l h) (0, 0)).1 ≤ h then (l.getD (idx l h) (0, 0)).2 else (l.getD (idx l h - 1) (0, 0)).2), (l.getD (idx l h) (0, 0)).2 + tol, 0)
theorem readE_ok {l : List (Int × Int)} {tol h : Int} (hz : readE l tol h = 0) : tabE l tol = 0 ∧ (l.getD 0 (0, 0)).1 ≤ h ∧ h ≤ (l.getD (l.length - 1) (0, 0)).1 := by
  unfold readE at hz
  split at hz
  · cases hz
  rename_i h1
  split at hz
  · cases hz
  rename_i h2
  have h2' : ¬ h < (l.getD 0 (0, 0)).1 ∧ ¬ h > (l.getD (l.length - 1) (0, 0)).1 := by simpa [outR] using h2
  exact ⟨by simpa using h1, by omega, by omega⟩
def lowI (l : List (Int × Int)) (k : Nat) : Int := if k = 0 then 0 else (l.getD (k - 1) (0, 0)).2
theorem wet_any (A : Option Addr) (c : Nat) (l : List (Int × Int)) (tol h : Int) (w : World) (hl : RdRow w A l.length 2 (elM l)) (hm : l.length ≤ 4611686018427387904) :
    Calls Tryz.prog 45 #[.agg #[.slice A l.length c, I tol], I h] w fun e w' => e = .returned (.tuple #[.agg #[I (wet3 l tol h).1, I (wet3 l tol h).2.1], I (wet3 l tol h).2.2]) ∧ Below w.heap.size w w' := by
  refine enterPlain tfine Tryz.func45 rfl 47 Tryz.ntmps45 [.agg [.inp 1000 A l.length c, .k (I tol)], .c (.k (I h))] [⟨1000, A, 2, l.length, elM l⟩] rfl rfl ⟨hl, trivial⟩ ⟨⟨.inl ⟨rfl, rfl, rfl⟩, trivial, trivial⟩, trivial, trivial⟩ ?_
  refine G.seqR tfine rfl trivial ?_
  refine G.seq (G.seqC tfine rfl trivial ?_)
  refine GO.callEx (fun v => ∃ z, v = .tuple #[I z, I (readE l tol h)]) rfl rfl rfl rfl (fun args w => Tryz.call44 args w) (fun ρ w hs hok => read_any A c l tol h w (hs.row (cap := c) rfl (hok _ List.mem_cons_self _ List.mem_cons_self)) hm) ?_
  rintro _ ⟨z, rfl⟩
  refine GO.fin tfine rfl trivial ?_
  refine G.seqR tfine rfl trivial ?_
  refine G.cond rfl (fun h1 => ?_) (fun h1 => ?_)
  · refine G.seqR tfine rfl trivial ?_
    refine G.ret (endK.ret rfl ?_)
    rw [wet3, if_pos h1]
  refine G.skip ?_
  have hz : readE l tol h = 0 := by simpa using h1
  obtain ⟨ht, hlo, hhi⟩ := readE_ok hz
  obtain ⟨q1, q2, q3, q4, q5⟩ := tabE_ok ht
  refine G.seqR tfine rfl trivial ?_
  refine G.seq (G.seqR tfine rfl trivial ?_)
  refine G.block (G.loop (fun k : Nat => St.of [(1, .v (.c (.k (I h)))), (2, .v (.c (.ptr 2 0 0 0))), (4, .v (.c (.ptr 4 0 0 0))), (5, .v (.c (.k (I 0)))), (8, .v (.c (.ptr 8 0 0 0))), (22, .v (.c (.inp 1000 A l.length c))), (23, .v (.c (.k (I l.length)))), (24, .v (.c (.k (I k))))]
      [(2, .var 47 [.inp 1000 A l.length c, .k (I tol)]), (4, .var 33 [.k (I 0), .k (I 0)]), (8, .var 33 [.k (I (lowI l k)), .k (I 0)]), (1000, .ro 2 l.length (elM l))])
    (fun k => k ≤ l.length ∧ ∀ j, j < k → (l.getD j (0, 0)).1 < h) (fun k => l.length - k) 0 ⟨by omega, fun j h5 => by omega⟩
    (St.le_of rfl ⟨⟨_, rfl, Blk.le_refl _⟩, ⟨_, rfl, Blk.le_refl _⟩, ⟨_, rfl, Blk.le_refl _⟩, ⟨_, rfl, Blk.le_refl _⟩, trivial⟩ ⟨rfl, rfl, rfl, rfl, rfl, rfl, rfl, rfl, trivial⟩) ?_)
  rintro k ⟨hk2, hpre⟩
  refine G.seqR tfine rfl trivial ?_
  refine G.seq (G.cond rfl (fun h2 => ?_) (fun h2 => ?_))
  rotate_left
  · have h2 := of_decide_eq_false h2
    have := hpre (l.length - 1) (by omega)
    omega
  have h2 := of_decide_eq_true h2
  have hlt : k < l.length := by omega
  have hb := q4 k hlt
  refine G.skip ?_
  refine G.seq (G.block ?_)
  refine G.seqR tfine rfl ?_ ?_
  · simp [AllP]; omega
  rw [Int.toNat_natCast]
  refine G.seq (G.seqR tfine rfl trivial ?_)
  have fin : ¬ (l.getD k (0, 0)).1 < h → wet3 l tol h = ((if (l.getD k (0, 0)).1 ≤ h then (l.getD k (0, 0)).2 else (l.getD (k - 1) (0, 0)).2), (l.getD k (0, 0)).2 + tol, 0) := by
    intro h6
    rw [wet3, if_neg (fne h1), idx_of hlt (by omega) hpre]
  refine G.cond rfl (fun h3 => ?_) (fun h3 => ?_)
  · refine G.reg tfine rfl trivial ?_
    have h3 := of_decide_eq_true h3
    refine G.seqR tfine rfl trivial ?_
    refine G.cond rfl (fun h4 => ?_) (fun h4 => ?_)
    · have h4 := of_decide_eq_true h4
      refine G.seqR tfine rfl trivial ?_
      rw [IntWalk.i64_in ((l.getD k (0, 0)).2 + tol) (by omega)]
      refine G.exit ?_
      refine G.seqR tfine rfl trivial ?_
      refine G.ret (endK.ret rfl ?_)
      rw [fin (by omega), if_pos h3]
    · have h4 := of_decide_eq_false h4
      refine G.skip ?_
      refine G.reg tfine rfl trivial ?_
      rw [IntWalk.i64_in ((k : Int) + 1) (by omega)]
      refine ⟨k + 1, ⟨hlt, fun j h8 => ?_⟩, (by show l.length - (k + 1) < l.length - k; omega), St.le_of rfl ⟨⟨_, rfl, Blk.le_refl _⟩, ⟨_, rfl, Blk.le_refl _⟩, ⟨_, rfl, Blk.le_refl _⟩, ⟨_, rfl, Blk.le_refl _⟩, trivial⟩ ⟨rfl, rfl, rfl, rfl, rfl, rfl, rfl, rfl, trivial⟩⟩
      by_cases e : j = k
      · rw [e]; omega
      · exact hpre j (by omega)
  · refine G.skip ?_
    have h3 := of_decide_eq_false h3
    refine G.seqR tfine rfl trivial ?_
    refine G.cond rfl (fun h4 => ?_) (fun h4 => ?_)
    · refine G.seqR tfine rfl trivial ?_
      rw [IntWalk.i64_in ((l.getD k (0, 0)).2 + tol) (by omega)]
      refine G.exit ?_
      refine G.seqR tfine rfl trivial ?_
      refine G.ret (endK.ret rfl ?_)
      have hk0 : k ≠ 0 := fun e => by subst e; omega
      rw [fin (by omega), if_neg h3, lowI, if_neg hk0]
    · have h4 := of_decide_eq_false h4
      omega
end Go.Proofs.YtphipfmidfoflaaGreat
/- Chapter 15: the report of a reading, of the program and of the reference. -/
set_option linter.unusedVariables false
set_option linter.unusedSimpArgs false
set_option maxRecDepth 8000
set_option maxHeartbeats 1000000
namespace Go.Proofs.YtphipfmidfoflaaGreat
open Go.Sx Go.RowKit
def gauge_Report (l0_0 : List (Int × Int)) (x0_1 : Int) (x1_0 : Int) (x1_1 : Int) (x1_2 : Int) (x1_3 : Int) (x2 : Int) : Int × Int × Int × Int × Int × Int × Int × Int × Int := if ((tabE l0_0 x0_1) != (0 : Int)) = true then ((0 : Int), (0 : Int), (0 : Int), (0 : Int), (0 : Int), (0 : Int), (0 : Int), (0 : Int), (1 : Int)) else if (((((wet3 l0_0 x0_1 x1_1).2.2) != (0 : Int)) || ((gauge_Check x1_0 x1_1 x1_2 x1_3) != (0 : Int))) || (!(gauge_in x2 (0 : Int) (10000 : Int)))) = true then ((0 : Int), (0 : Int), (0 : Int), (0 : Int), (0 : Int), (0 : Int), (0 : Int), (0 : Int), (2 : Int)) else if (((btw3 ((wet3 l0_0 x0_1 x1_1).1) ((wet3 l0_0 x0_1 x1_1).2.1) x1_2 x1_2 x2).2.2) != (0 : Int)) = true then ((0 : Int), (0 : Int), (0 : Int), (0 : Int), (0 : Int), (0 : Int), (0 : Int), (0 : Int), (btw3 ((wet3 l0_0 x0_1 x1_1).1) ((wet3 l0_0 x0_1 x1_1).2.1) x1_2 x1_2 x2).2.2) else (x1_0, x1_1, x1_2, x1_3, (btw3 ((wet3 l0_0 x0_1 x1_1).1) ((wet3 l0_0 x0_1 x1_1).2.1) x1_2 x1_2 x2).1, (btw3 ((wet3 l0_0 x0_1 x1_1).1) ((wet3 l0_0 x0_1 x1_1).2.1) x1_2 x1_2 x2).2.1, (gauge_times ((btw3 ((wet3 l0_0 x0_1 x1_1).1) ((wet3 l0_0 x0_1 x1_1).2.1) x1_2 x1_2 x2).1) ((btw3 ((wet3 l0_0 x0_1 x1_1).1) ((wet3 l0_0 x0_1 x1_1).2.1) x1_2 x1_2 x2).2.1) x1_3).1, (gauge_times ((btw3 ((wet3 l0_0 x0_1 x1_1).1) ((wet3 l0_0 x0_1 x1_1).2.1) x1_2 x1_2 x2).1) ((btw3 ((wet3 l0_0 x0_1 x1_1).1) ((wet3 l0_0 x0_1 x1_1).2.1) x1_2 x1_2 x2).2.1) x1_3).2, (0 : Int))
theorem gauge_Report_any (A0_0 : Option Addr) (c0_0 : Nat) (l0_0 : List (Int × Int)) (x0_1 : Int) (x1_0 : Int) (x1_1 : Int) (x1_2 : Int) (x1_3 : Int) (x2 : Int) (w : World) (hl_l0_0 : RdRow w A0_0 l0_0.length 2 (elM l0_0)) (hm_l0_0 : l0_0.length ≤ 4611686018427387904) : Calls Tryz.prog 21 #[.agg #[.slice A0_0 l0_0.length c0_0, I x0_1], .agg #[I x1_0, I x1_1, I x1_2, I x1_3], I x2] w fun e w' => e = .returned (.tuple #[.agg #[I ((gauge_Report l0_0 x0_1 x1_0 x1_1 x1_2 x1_3 x2).1), I ((gauge_Report l0_0 x0_1 x1_0 x1_1 x1_2 x1_3 x2).2.1), I ((gauge_Report l0_0 x0_1 x1_0 x1_1 x1_2 x1_3 x2).2.2.1), I ((gauge_Report l0_0 x0_1 x1_0 x1_1 x1_2 x1_3 x2).2.2.2.1), I ((gauge_Report l0_0 x0_1 x1_0 x1_1 x1_2 x1_3 x2).2.2.2.2.1), I ((gauge_Report l0_0 x0_1 x1_0 x1_1 x1_2 x1_3 x2).2.2.2.2.2.1), I ((gauge_Report l0_0 x0_1 x1_0 x1_1 x1_2 x1_3 x2).2.2.2.2.2.2.1), I ((gauge_Report l0_0 x0_1 x1_0 x1_1 x1_2 x1_3 x2).2.2.2.2.2.2.2.1)], I ((gauge_Report l0_0 x0_1 x1_0 x1_1 x1_2 x1_3 x2).2.2.2.2.2.2.2.2)]) ∧ Below w.heap.size w w' := by
  refine enterPlain tfine Tryz.func21 rfl 57 Tryz.ntmps21 [.agg [.inp 1000 A0_0 l0_0.length c0_0, .k (I x0_1)], .agg [.k (I x1_0), .k (I x1_1), .k (I x1_2), .k (I x1_3)], .c (.k (I x2))] [⟨1000, A0_0, 2, l0_0.length, elM l0_0⟩] rfl rfl ⟨hl_l0_0, trivial⟩ ⟨⟨.inl ⟨rfl, rfl, rfl⟩, trivial, trivial⟩, ⟨trivial, trivial, trivial, trivial, trivial⟩, trivial, trivial⟩ ?_
  refine G.seqR tfine rfl ?_ ?_
  · first | trivial | (simp [AllP, condB]; done) | (simp only [AllP]; and_intros <;> first | trivial | decide | omega) | (simp [AllP, condB]; intros; and_intros <;> first | assumption | omega)
  refine G.seq ?_
  refine G.seqC tfine rfl ?_ ?_
  · first | trivial | (simp [AllP, condB]; done) | (simp only [AllP]; and_intros <;> first | trivial | decide | omega) | (simp [AllP, condB]; intros; and_intros <;> first | assumption | omega)
  refine GO.callPlain (v := I (tabE l0_0 x0_1))  rfl rfl rfl rfl (fun args w => Tryz.call42 args w) (fun ρ w hs hok => dipCheck_any A0_0 c0_0 l0_0 _ w (hs.row (cap := c0_0) rfl (hok _ List.mem_cons_self _ List.mem_cons_self)) hm_l0_0) ?_
  refine GO.fin tfine rfl ?_ ?_
  · first | trivial | (simp [AllP, condB]; done) | (simp only [AllP]; and_intros <;> first | trivial | decide | omega) | (simp [AllP, condB]; intros; and_intros <;> first | assumption | omega)
  refine G.cond (b := (tabE l0_0 x0_1) != (0 : Int)) rfl (fun h1 => ?_) (fun h1 => ?_)
  · refine G.seqR tfine rfl ?_ ?_
    · first | trivial | (simp [AllP, condB]; done) | (simp only [AllP]; and_intros <;> first | trivial | decide | omega) | (simp [AllP, condB]; intros; and_intros <;> first | assumption | omega)
    refine G.ret (endK.ret rfl ?_)
    first | (rw [gauge_Report, if_pos h1]; done) | (rw [gauge_Report, if_pos h1]; rfl)
  refine G.skip ?_
  refine G.seqC tfine rfl ?_ ?_
  · first | trivial | (simp [AllP, condB]; done) | (simp only [AllP]; and_intros <;> first | trivial | decide | omega) | (simp [AllP, condB]; intros; and_intros <;> first | assumption | omega)
  refine GO.callPlain (v := .tuple #[.agg #[I ((wet3 l0_0 x0_1 x1_1).1), I ((wet3 l0_0 x0_1 x1_1).2.1)], I ((wet3 l0_0 x0_1 x1_1).2.2)])  rfl rfl rfl rfl (fun args w => Tryz.call45 args w) (fun ρ w hs hok => wet_any A0_0 c0_0 l0_0 _ _ w (hs.row (cap := c0_0) rfl (hok _ List.mem_cons_self _ List.mem_cons_self)) hm_l0_0) ?_
  refine GO.fin tfine rfl ?_ ?_
  · first | trivial | (simp [AllP, condB]; done) | (simp only [AllP]; and_intros <;> first | trivial | decide | omega) | (simp [AllP, condB]; intros; and_intros <;> first | assumption | omega)
  refine G.seq ?_
  refine G.seqC tfine rfl ?_ ?_
  · first | trivial | (simp [AllP, condB]; done) | (simp only [AllP]; and_intros <;> first | trivial | decide | omega) | (simp [AllP, condB]; intros; and_intros <;> first | assumption | omega)
  refine GO.callGuard (I (gauge_Check x1_0 x1_1 x1_2 x1_3)) rfl rfl rfl (by first | exact trivial | exact ⟨id, trivial⟩ | exact ⟨id, id, trivial⟩ | exact ⟨id, id, id, trivial⟩ | exact ⟨id, id, id, id, trivial⟩) rfl rfl (fun args w => Tryz.call46 args w) rfl (fun _ m' hle ρ w hs hok => gauge_Check_any _ _ _ _ w) ?_
  refine GO.more tfine rfl ?_ ?_
  · first | trivial | (simp [AllP, condB]; done) | (simp only [AllP]; and_intros <;> first | trivial | decide | omega) | (simp [AllP, condB]; intros; and_intros <;> first | assumption | omega)
  refine GO.callGuard (.bool (gauge_in x2 (0 : Int) (10000 : Int))) rfl rfl rfl (by first | exact trivial | exact ⟨id, trivial⟩ | exact ⟨id, id, trivial⟩ | exact ⟨id, id, id, trivial⟩ | exact ⟨id, id, id, id, trivial⟩) rfl rfl (fun args w => Tryz.call47 args w) rfl (fun _ m' hle ρ w hs hok => gauge_in_any _ _ _ w) ?_
  refine GO.fin tfine rfl ?_ ?_
  · first | trivial | (simp [AllP, condB]; done) | (simp only [AllP]; and_intros <;> first | trivial | decide | omega) | (simp [AllP, condB]; intros; and_intros <;> first | assumption | omega)
  refine G.cond (b := ((((wet3 l0_0 x0_1 x1_1).2.2) != (0 : Int)) || ((gauge_Check x1_0 x1_1 x1_2 x1_3) != (0 : Int))) || (!(gauge_in x2 (0 : Int) (10000 : Int)))) rfl (fun h2 => ?_) (fun h2 => ?_)
  · refine G.seqR tfine rfl ?_ ?_
    · first | trivial | (simp [AllP, condB]; done) | (simp only [AllP]; and_intros <;> first | trivial | decide | omega) | (simp [AllP, condB]; intros; and_intros <;> first | assumption | omega)
    refine G.ret (endK.ret rfl ?_)
    first | (rw [gauge_Report, if_neg (fne h1), if_pos h2]; done) | (rw [gauge_Report, if_neg (fne h1), if_pos h2]; rfl)
  refine G.skip ?_
  refine G.seqC tfine rfl ?_ ?_
  · first | trivial | (simp [AllP, condB]; done) | (simp only [AllP]; and_intros <;> first | trivial | decide | omega) | (simp [AllP, condB]; intros; and_intros <;> first | assumption | omega)
  refine GO.callPlain (v := .tuple #[.agg #[I ((btw3 ((wet3 l0_0 x0_1 x1_1).1) ((wet3 l0_0 x0_1 x1_1).2.1) x1_2 x1_2 x2).1), I ((btw3 ((wet3 l0_0 x0_1 x1_1).1) ((wet3 l0_0 x0_1 x1_1).2.1) x1_2 x1_2 x2).2.1)], I ((btw3 ((wet3 l0_0 x0_1 x1_1).1) ((wet3 l0_0 x0_1 x1_1).2.1) x1_2 x1_2 x2).2.2)])  rfl rfl rfl rfl (fun args w => Tryz.call48 args w) (fun ρ w hs hok => between_any _ _ _ _ _ w) ?_
  refine GO.fin tfine rfl ?_ ?_
  · first | trivial | (simp [AllP, condB]; done) | (simp only [AllP]; and_intros <;> first | trivial | decide | omega) | (simp [AllP, condB]; intros; and_intros <;> first | assumption | omega)
  refine G.seq ?_
  refine G.seqR tfine rfl ?_ ?_
  · first | trivial | (simp [AllP, condB]; done) | (simp only [AllP]; and_intros <;> first | trivial | decide | omega) | (simp [AllP, condB]; intros; and_intros <;> first | assumption | omega)
  refine G.cond (b := ((btw3 ((wet3 l0_0 x0_1 x1_1).1) ((wet3 l0_0 x0_1 x1_1).2.1) x1_2 x1_2 x2).2.2) != (0 : Int)) rfl (fun h3 => ?_) (fun h3 => ?_)
  · refine G.seqR tfine rfl ?_ ?_
    · first | trivial | (simp [AllP, condB]; done) | (simp only [AllP]; and_intros <;> first | trivial | decide | omega) | (simp [AllP, condB]; intros; and_intros <;> first | assumption | omega)
    refine G.ret (endK.ret rfl ?_)
    first | (rw [gauge_Report, if_neg (fne h1), if_neg (fne h2), if_pos h3]; done) | (rw [gauge_Report, if_neg (fne h1), if_neg (fne h2), if_pos h3]; rfl)
  refine G.skip ?_
  refine G.seqDraw hmix [0, 0, 0, 0, 8, 28, 63, 127, 255] [(7, 6)] rfl rfl rfl ?_
  refine GD.more tfine 0 rfl rfl ?_ ?_
  · first | trivial | (simp [AllP, condB]; done) | (simp only [AllP]; and_intros <;> first | trivial | decide | omega) | (simp [AllP, condB]; intros; and_intros <;> first | assumption | omega)
  refine GD.call (v := .agg #[I ((gauge_times ((btw3 ((wet3 l0_0 x0_1 x1_1).1) ((wet3 l0_0 x0_1 x1_1).2.1) x1_2 x1_2 x2).1) ((btw3 ((wet3 l0_0 x0_1 x1_1).1) ((wet3 l0_0 x0_1 x1_1).2.1) x1_2 x1_2 x2).2.1) x1_3).1), I ((gauge_times ((btw3 ((wet3 l0_0 x0_1 x1_1).1) ((wet3 l0_0 x0_1 x1_1).2.1) x1_2 x1_2 x2).1) ((btw3 ((wet3 l0_0 x0_1 x1_1).1) ((wet3 l0_0 x0_1 x1_1).2.1) x1_2 x1_2 x2).2.1) x1_3).2)]) 5 rfl rfl rfl rfl rfl (fun args w => Tryz.call49 args w) (fun m hle ρ w hs hok => gauge_times_any _ _ _ w) ?_
  refine GD.fin tfine 6 rfl rfl ?_ ?_
  · first | trivial | (simp [AllP, condB]; done) | (simp only [AllP]; and_intros <;> first | trivial | decide | omega) | (simp [AllP, condB]; intros; and_intros <;> first | assumption | omega)
  refine G.ret (endK.ret rfl ?_)
  first | (rw [gauge_Report, if_neg (fne h1), if_neg (fne h2), if_neg (fne h3)]; done) | (rw [gauge_Report, if_neg (fne h1), if_neg (fne h2), if_neg (fne h3)]; rfl)
end Go.Proofs.YtphipfmidfoflaaGreat
/- The symbolic executor, part Y: functions that answer a struct whose first part is a row, and calls of them. Generic over P. -/
set_option linter.unusedVariables false
set_option linter.unusedSimpArgs false
namespace Go.Sx
open Go.RowKit
section
variable {P : Program} {E : Env} {K : Exit → St → Prop} {T : Tab}
end
end Go.Sx
/- The symbolic executor, part Z: append of one element onto a row of ours. Generic over P. -/
set_option linter.unusedVariables false
set_option linter.unusedSimpArgs false
namespace Go.Sx
open Go.RowKit
section
variable {P : Program} {E : Env} {K : Exit → St → Prop} {T : Tab}
/-- A row of ours is grown, perhaps in a new block, and gets the name d; x is told no more. -/
theorem SatM.grown {ρ : Val} {m m0 : Mem} {w w' : World} (h : SatM E ρ m w) (h0 : SatM E ρ m0 w) {x d n' sz' g : Nat} {ty' : TypeId} {el' : Nat → List Value} {room' : Nat} {b0 : Blk} (hx : m x = some b0) (hb0 : b0.own) (hxb : x < 1000)
    (hfr : ∀ y b, m0 y = some b → m y = some b ∧ y ≠ x) (hd : m0 d = none) (hdb : d < 1000) (hos : w'.os = w.os) (htape : w'.tape = w.tape) (hout : w'.output = w.output) (hsize : w.heap.size ≤ w'.heap.size)
    (hblk : ∀ k, k < w.heap.size → k ≠ (ρ x).1 → w'.heap[k]? = w.heap[k]?) (hg : g = (ρ x).1 ∨ w.heap.size ≤ g) (ho : OwnAt w' g ty' n' sz' el' room') :
    (∀ y, (m0 y).isSome = true → up ρ d (g, 0) y = ρ y) ∧ SatM E (up ρ d (g, 0)) (up m0 d (some (.arr ty' sz' n' el' room'))) w' := by
  have hkx : E.w0.heap.size ≤ (ρ x).1 ∨ (x, (ρ x).1) ∈ E.bor := by
    have := h.ok x _ hx
    cases b0 with
    | var ty cells => exact this.2.1
    | arr ty sz n el room => exact this.2.1
    | obj Q => exact this.2.1
    | ro sz n el => exact hb0.elim
    | say S R => exact hb0.elim
  have hown : E.w0.heap.size ≤ (ρ x).1 := by
    rcases hkx with h1 | h1
    · exact h1
    · have := (h.bo _ h1).2
      simp only at this
      omega
  have hρ : ∀ y, (m0 y).isSome = true → up ρ d (g, 0) y = ρ y := fun y hy => up_other _ _ (fun e => by subst e; simp [hd] at hy)
  have hge : E.w0.heap.size ≤ g := by
    rcases hg with rfl | hg
    · exact hown
    · exact Nat.le_trans h.fr.size hg
  refine ⟨hρ, ⟨hos.trans h.fr.os, htape.trans h.fr.tape, hout.trans h.fr.output, Nat.le_trans h.fr.size hsize, fun k hk hn => ?_⟩, fun q hq => ?_, fun y c hy => ?_, fun y z c e hy hz hc he hne => ?_⟩
  · exact (hblk k (Nat.lt_of_lt_of_le hk h.fr.size) (by omega)).trans (h.fr.block k hk hn)
  · have := h.bo q hq
    rw [up_other _ _ (by omega)]; exact this
  · by_cases e : y = d
    · subst e
      rw [up_same] at hy
      injection hy with hy
      subst hy
      rw [BlkOK, up_same]
      exact ⟨rfl, .inl hge, ho⟩
    · rw [up_other _ _ e] at hy
      obtain ⟨hmy, hyx⟩ := hfr y c hy
      have hk := (h0.ok y c hy).far (m' := m0) (w' := w') (fun _ h => h) hsize fun k hk hlive => hblk _ (h0.lt' hy hlive hk) fun e2 => h.ne x y _ _ hx hmy hb0 hlive (fun e3 => hyx e3.symm) (e2 ▸ hk)
      have ey : up ρ d (g, 0) y = ρ y := up_other _ _ e
      cases c with
      | var ty cells =>
        have hcm : cells.map (AC.conc (up ρ d (g, 0))) = cells.map (AC.conc ρ) := List.map_congr_left fun c hm => AC.conc_mono hρ (hk.2.2.2 c hm)
        exact ⟨by rw [ey]; exact hk.1, by rw [ey]; exact hk.2.1, by rw [ey, hcm]; exact hk.2.2.1, fun c hc => AC.ok_mono (fun z hz => isSome_up z hz) hρ (hk.2.2.2 c hc)⟩
      | arr ty sz n el room =>
        obtain ⟨h1, h2, a, ha, hs, he⟩ := hk
        exact ⟨by rw [ey]; exact h1, by rw [ey]; exact h2, a, by rw [ey]; exact ha, hs, he⟩
      | obj Q =>
        obtain ⟨h1, h2, a, ha, hs⟩ := hk
        exact ⟨by rw [ey]; exact h1, by rw [ey]; exact h2, a, by rw [ey]; exact ha, hs⟩
      | ro sz n el =>
        intro hn
        rw [ey]
        exact hk hn
      | say S R => exact hk
  · by_cases e1 : y = d
    · by_cases e2 : z = d
      · exact absurd (e1.trans e2.symm) hne
      · subst e1
        rw [up_other _ _ e2] at hz
        rw [up_same, up_other _ _ e2]
        obtain ⟨hmz, hzx⟩ := hfr z e hz
        rcases hg with rfl | hg
        · exact h.ne x z _ _ hx hmz hb0 he (fun e3 => hzx e3.symm)
        · exact fun hh => by have := h0.lt' hz he hh; simp only at this; omega
    · rw [up_other _ _ e1] at hy
      obtain ⟨hmy, hyx⟩ := hfr y c hy
      by_cases e2 : z = d
      · subst e2
        rw [up_same] at hz
        injection hz with hz
        subst hz
        rw [up_same, up_other _ _ e1]
        rcases hg with rfl | hg
        · have := h.ne y x _ _ hmy hx hc (Blk.own_live hb0) hyx
          rw [Blk.own_hits hb0] at this
          exact this
        · have := h0.lt hy hc
          show ¬ _ = g
          omega
      · rw [up_other _ _ e2] at hz
        rw [up_other _ _ e1, up_other _ _ e2]
        exact h0.ne y z c e hy hz hc he hne
def elN (el : Nat → List Value) (n : Nat) (vs : List Value) (i : Nat) : List Value := bif Nat.beq i n then vs else el i
theorem elN_lt {el : Nat → List Value} {n : Nat} {vs : List Value} {i : Nat} (h : i < n) : elN el n vs i = el i := by
  have : Nat.beq i n = false := by
    cases hb : Nat.beq i n with
    | false => rfl
    | true => have := Nat.eq_of_beq_eq_true hb; omega
  simp only [elN, this, cond_false]
theorem elN_eq {el : Nat → List Value} {n : Nat} {vs : List Value} : elN el n vs n = vs := by simp only [elN, Nat.beq_refl, cond_true]
theorem news_at {el : Nat → List Value} {sz n : Nat} {vs : List Value} (hlen : ∀ k, k < n → (el k).length = sz) (hv : vs.length = sz) {i j : Nat} (hi : i < n + 1) (hj : j < sz) : (flatE el 0 n ++ vs)[i * sz + j]? = (elN el n vs i)[j]? := by
  have hl := flatE_len (el := el) (sz := sz) n 0 fun k _ hk => hlen k (by omega)
  by_cases h : i < n
  · have hlt : i * sz + j < n * sz := by
      have := Nat.mul_le_mul_right sz (show i + 1 ≤ n from h)
      rw [Nat.add_mul] at this
      omega
    rw [elN_lt h, List.getElem?_append_left (by rw [hl]; exact hlt), flatE_at hlen h hj]
  · have : i = n := by omega
    subst this
    rw [elN_eq, List.getElem?_append_right (by rw [hl]; omega), hl]
    congr 1
    omega
theorem OwnAt.hold {w : World} {b : Nat} {ty : TypeId} {n sz : Nat} {el : Nat → List Value} {room : Nat} (h : OwnAt w b ty n sz el room) : (flatE el 0 n).length = n * sz ∧ ∀ j u, (flatE el 0 n)[j]? = some u → w.cell? ((⟨b, 0, none⟩ : Addr).add j) = some u := rd_flat h.rd.2
/-- append of one element onto a row of ours -/
theorem GO.appendOwn {ops : Array Oper} {rest : List Oper} {o : Oper} {s y : Operand} {t e size bytes d x n c : Nat} {z : Value} {t0 : Nat → TV} {m : Mem} {el : Nat → List Value} {room q c1 : Nat} {ty1 : TypeId} (vs : List Value) (tl : List (Nat × TV)) (ml : List (Nat × Blk)) (hp : ApT P t e size bytes z) (hg : o.guard = none) (hop : o.op = .call { callee := .builtin .append, args := #[s, y], argTypes := #[t, t] })
    (hd : o.dst = some d) (hdN : Nat.blt d E.N = true) (hdb : Nat.blt d 1000 = true) (hxb : Nat.blt x 1000 = true) (hs : evT t0 s = .v (.c (.slc x 0 size n c))) (hx : m x = some (.arr e size n el room)) (hroom : (c - n) * size ≤ room)
    (hy : evT t0 y = .v (.c (.slc q 0 size 1 c1))) (hq : m q = some (.var ty1 (vs.map .k))) (hv : vs.length = size) (h1 : ∀ u ∈ vs, u.oneCell' = true)
    (hle : St.le E (St.of tl ml) ⟨t0, m⟩) (hfr : ∀ z b, (St.of tl ml).m z = some b → m z = some b ∧ z ≠ x) (hfree : (St.of tl ml).m d = none) (hlen : ∀ k, k < n → (el k).length = size) (b1 : n + 1 ≤ maxLen) (b2 : (n + 1) * bytes ≤ 140737488355328)
    (k : ∀ c', n + 1 ≤ c' → GO P E ops K rest ⟨up (St.of tl ml).t d (.v (.c (.slc d 0 size (n + 1) c'))), up (St.of tl ml).m d (some (.arr e size (n + 1) (elN el n vs) ((c' - (n + 1)) * size)))⟩) : GO P E ops K (o :: rest) ⟨t0, m⟩ := by
  intro ρ a w hsat
  obtain ⟨i, hi, hz, hsi, hbi⟩ := hp.info
  have hs0 := hle ρ a w hsat
  obtain ⟨hρx, hox, hown⟩ := hsat.mem.ok x _ hx
  have hown : OwnAt w (ρ x).1 e n size el room := hown
  have es : a.eval s = .slice (some ⟨(ρ x).1, 0, none⟩) n c := by
    have := hsat.eval s
    simp only [St.ev, hs] at this
    have := this.2
    simpa [AV.conc, AC.conc, hρx] using this
  have hvar := hsat.mem.ok q _ hq
  have ey : a.eval y = .slice (some ⟨(ρ q).1, 0, none⟩) 1 c1 := by
    have := hsat.eval y
    simp only [St.ev, hy] at this
    have := this.2
    simpa [AV.conc, AC.conc, hvar.1] using this
  have hnews : ∀ j u, vs[j]? = some u → w.cell? ((⟨(ρ q).1, 0, none⟩ : Addr).add j) = some u := by
    intro j u hj
    have h3 := hvar.2.2.1
    rw [map_conc_k] at h3
    rw [Addr.add_lit]
    simp [World.cell?, h3, hj]
  have hl1 : vs.length = 1 * size := by rw [hv, Nat.one_mul]
  obtain ⟨hf1, hf2⟩ := hown.hold
  have fin : ∀ (g c' : Nat) (w' : World), n + 1 ≤ c' → (Builtin.append_ #[t, t] o.type #[.slice (some ⟨(ρ x).1, 0, none⟩) n c, .slice (some ⟨(ρ q).1, 0, none⟩) 1 c1]).run P w = .ok (.slice (some ⟨g, 0, none⟩) (n + 1) c') w' →
      w'.os = w.os → w'.tape = w.tape → w'.output = w.output → w.heap.size ≤ w'.heap.size → (∀ k, k < w.heap.size → k ≠ (ρ x).1 → w'.heap[k]? = w.heap[k]?) → (g = (ρ x).1 ∨ w.heap.size ≤ g) → OwnAt w' g e (n + 1) size (elN el n vs) ((c' - (n + 1)) * size) →
      wpL P ops (QK E K) (o :: rest) a w := by
    intro g c' w' hc' hrun r1 r2 r3 r4 r5 r6 r7
    have hex : (execOp a.eval o).run P w = .ok (.value (.slice (some ⟨g, 0, none⟩) (n + 1) c')) w' := by
      simp [execOp, hop, resolve, invoke, builtin, es, ey, hrun, Result.andThen]
    unfold wpL
    rw [if_pos (by simp [Region.wanted, hg])]
    refine .inl ?_
    unfold Oper.wp
    rw [hex]
    obtain ⟨h3, h4⟩ := hsat.mem.grown hs0.mem hx trivial (by simpa [Nat.blt_eq] using hxb) hfr hfree (by simpa [Nat.blt_eq] using hdb) r1 r2 r3 r4 r5 r6 r7
    refine k c' hc' (up ρ d (g, 0)) _ w' ?_
    rw [hd]
    refine (hs0.move h4 (fun y hy => isSome_up y hy) h3).put (by simpa [Nat.blt_eq] using hdN) ⟨?_, ?_⟩
    · show (up (St.of tl ml).m d _ d).isSome = true
      rw [up_same]; rfl
    · simp [AV.conc, AC.conc, up_same]
  by_cases hr : n + 1 ≤ c
  · obtain ⟨cur, g1, g2, g3⟩ := hown
    have hle1 : (n + 1) * size ≤ n * size + room := by
      have := Nat.mul_le_mul_right size (show 1 ≤ c - n by omega)
      rw [Nat.add_mul]
      omega
    have hfit : n * i.size + vs.length ≤ cur.size := by rw [hsi, hv]; rw [Nat.add_mul] at hle1; omega
    have hrun := run_append_room (P := P) w t o.type e i hp.ht hi (ρ x).1 n c cur g1 ⟨(ρ q).1, 0, none⟩ 1 c1 vs (by rw [hsi]; exact hl1) hnews h1 hr hfit
    refine fin (ρ x).1 c _ hr hrun rfl rfl rfl (by simp) (fun k _ hk => setRow_other w (ρ x).1 k _ hk) (.inl rfl) ⟨_, setRow_heap w (ρ x).1 cur _ e _ g1, ?_, fun i' hi' => ⟨?_, fun j hj => ?_⟩⟩
    · simp only [List.size_toArray, List.length_append, List.length_take, List.length_drop, Array.length_toList]
      have : (n + 1) * size + (c - (n + 1)) * size = n * size + (c - n) * size := by
        rw [← Nat.add_mul, ← Nat.add_mul]
        congr 1
        omega
      rw [hsi] at hfit ⊢
      omega
    · by_cases h : i' < n
      · rw [elN_lt h]; exact hlen i' h
      · rw [show i' = n by omega, elN_eq]; exact hv
    · have hsz : n * i.size ≤ cur.size := by omega
      by_cases h : i' < n
      · have hlt : i' * size + j < n * size := by
          have := Nat.mul_le_mul_right size (show i' + 1 ≤ n from h)
          rw [Nat.add_mul] at this
          omega
        rw [elN_lt h, ← (g3 i' h).2 j hj]
        rw [hsi] at hsz ⊢
        simp only [List.getElem?_toArray]
        rw [List.append_assoc, List.getElem?_append_left (by simp; omega), List.getElem?_take, if_pos hlt]
        simp
      · have e1 : i' = n := by omega
        subst e1
        rw [elN_eq]
        rw [hsi] at hsz ⊢
        simp only [List.getElem?_toArray]
        have hl2 : (List.take (i' * size) cur.toList).length = i' * size := by simp; omega
        rw [List.append_assoc, List.getElem?_append_right (by rw [hl2]; omega), hl2, List.getElem?_append_left (by omega)]
        congr 1
        omega
  · obtain ⟨v', w', hrun, r1, r2⟩ := run_append_arg_grows (P := P) w t o.type e i z size bytes hp.ht hi hz hsi hbi hp.hz hp.pos ⟨(ρ x).1, 0, none⟩ n c (flatE el 0 n) hf1 hf2 ⟨(ρ q).1, 0, none⟩ 1 c1 vs hl1 hnews (by omega) b1 b2
    rcases r1.2 with ⟨_, h0⟩ | ⟨g, c', cur, rfl, hbg, hgg, hnc, hcm, hcs, htake⟩
    · omega
    refine fin g c' w' hnc hrun r2.os r2.tape r2.output r2.size (fun k hk _ => r2.block k hk (by simp)) (.inr hbg) ⟨cur, hgg, ?_, fun i' hi' => ⟨?_, fun j hj => ?_⟩⟩
    · rw [hcs, ← Nat.add_mul]
      exact Nat.mul_le_mul_right _ (by omega)
    · by_cases h : i' < n
      · rw [elN_lt h]; exact hlen i' h
      · rw [show i' = n by omega, elN_eq]; exact hv
    · rw [← news_at hlen hv hi' hj, ← htake, List.getElem?_take, if_pos (by
        have := Nat.mul_le_mul_right size (show i' + 1 ≤ n + 1 from hi')
        rw [Nat.add_mul] at this
        omega)]
      simp
def subM (m : Mem) (x : Nat) : List (Nat × Blk) → Prop
  | [] => True
  | p :: r => m p.1 = some p.2 ∧ p.1 ≠ x ∧ subM m x r
theorem subM.fr {m : Mem} {x : Nat} {tl : List (Nat × TV)} {ml : List (Nat × Blk)} (h : subM m x ml) : ∀ z b, (St.of tl ml).m z = some b → m z = some b ∧ z ≠ x := by
  intro z b hz
  have hz : lkM ml z = some b := hz
  induction ml with
  | nil => cases hz
  | cons p r ih =>
    cases hb : Nat.beq z p.1 with
    | true =>
      have e := Nat.eq_of_beq_eq_true hb
      simp only [lkM, hb, cond_true] at hz
      injection hz with hz
      rw [e, ← hz]
      exact ⟨h.1, h.2.1⟩
    | false =>
      simp only [lkM, hb, cond_false] at hz
      exact ih h.2.2 hz hz
end
end Go.Sx
/- The symbolic executor, part AA: rows of which the capacity is told, structs with a row among their parts, also in regions that draw. Generic over P. -/
set_option linter.unusedVariables false
set_option linter.unusedSimpArgs false
namespace Go.Sx
open Go.RowKit
section
variable {P : Program} {E : Env} {K : Exit → St → Prop} {T : Tab}
/-! ### A row whose capacity is at least its length -/
/-! ### A struct with a row among its parts -/
variable {l : List Oper} {cls : List Nat} {X : List (Nat × Nat)} {base : St}
end
end Go.Sx
/- The symbolic executor, part AB: closures that read several captured variables (which may hold slices that came in). Generic over P. -/
set_option linter.unusedVariables false
set_option linter.unusedSimpArgs false
namespace Go.Sx
open Go.RowKit
def lowI : List Inp → Prop
  | [] => True
  | i :: r => i.x < 1900 ∧ lowI r
section
variable {P : Program} {T : Tab}
/-- A part of a row that is only read. -/
theorem SatM.rdRo {E : Env} {ρ : Val} {m : Mem} {w : World} (h : SatM E ρ m w) {x sz n : Nat} {el : Nat → List Value} (hx : m x = some (.ro sz n el)) (i0 len : Nat) (hl : i0 + len ≤ n) :
    RdRow w (some ⟨(ρ x).1, (ρ x).2 + i0 * sz, none⟩) len sz (fun i => el (i0 + i)) := by
  intro h0
  obtain ⟨h1, h2⟩ := h.ok x _ hx (by omega)
  refine ⟨_, _, rfl, h1, fun i hi => ⟨(h2 _ (by omega)).1, fun j hj => ?_⟩⟩
  rw [← (h2 (i0 + i) (by omega)).2 j hj, Nat.add_mul]
  congr 2
  omega
end
section
variable {P : Program} {E : Env} {K : Exit → St → Prop} {T : Tab}
/-- A name for a row of which nothing is said. -/
theorem SatM.newNil {ρ : Val} {m : Mem} {w : World} (h : SatM E ρ m w) {x sz : Nat} {el : Nat → List Value} (hx : m x = none) : SatM E ρ (up m x (some (.ro sz 0 el))) w := by
  have old : ∀ y b, up m x (some (.ro sz 0 el)) y = some b → (y = x ∧ b = .ro sz 0 el) ∨ (y ≠ x ∧ m y = some b) := by
    intro y b hy
    by_cases e : y = x
    · subst e
      rw [up_same] at hy
      injection hy with hy
      exact .inl ⟨rfl, hy.symm⟩
    · rw [up_other _ _ e] at hy
      exact .inr ⟨e, hy⟩
  refine ⟨h.fr, h.bo, fun y b hy => ?_, fun y z c d hy hz hc hd hne => ?_⟩
  · rcases old y b hy with ⟨rfl, rfl⟩ | ⟨e, hy⟩
    · intro h0; omega
    · exact (h.ok y b hy).far (fun z hz => isSome_up z hz) (Nat.le_refl _) fun _ _ _ => rfl
  · rcases old y c hy with ⟨rfl, rfl⟩ | ⟨e, hy⟩
    · exact hc.elim
    · rcases old z d hz with ⟨rfl, rfl⟩ | ⟨e2, hz⟩
      · exact absurd hd (Nat.lt_irrefl 0)
      · exact h.ne y z c d hy hz hc hd hne
end
end Go.Sx
/- The symbolic executor, part AC: closures that read and turn captured blocks of any kind (variables, rows of ours), and calls of them. Generic over P. -/
set_option linter.unusedVariables false
set_option linter.unusedSimpArgs false
namespace Go.Sx
open Go.RowKit
section
variable {P : Program} {T : Tab}
/-- What a world says of a block in the end (no room is told). -/
def rawE (ρ : Val) (w : World) (g : Nat) : Blk → Prop
  | .var ty cells => w.heap[g]? = some (.cells (cells.map (AC.conc ρ)).toArray ty (0, 0))
  | .arr ty sz n el _ => OwnAt w g ty n sz el 0
  | .ro .. => False
  | .obj .. => False
  | .say .. => False
end
section
variable {P : Program} {E : Env} {K : Exit → St → Prop} {T : Tab}
/-! ### Calls that turn blocks of ours -/
structure Tb where
  x : Nat
  b : Blk
theorem BlkOK.place {ρ : Val} {m : Mem} {w : World} {x : Nat} {b : Blk} (h : BlkOK E ρ m w x b) (ho : b.own) : (ρ x).2 = 0 ∧ (E.w0.heap.size ≤ (ρ x).1 ∨ (x, (ρ x).1) ∈ E.bor) := by
  cases b with
  | var ty cells => exact ⟨h.1, h.2.1⟩
  | arr ty sz n el room => exact ⟨h.1, h.2.1⟩
  | ro sz n el => exact ho.elim
  | obj Q => exact ⟨h.1, h.2.1⟩
  | say S R => exact ho.elim
def rawL (ρ : Val) (w : World) : List Tb → Prop
  | [] => True
  | t :: r => rawE ρ w (ρ t.x).1 t.b ∧ rawL ρ w r
/-! ### The same in regions that draw their order -/
section
variable {l : List Oper} {cls : List Nat} {X : List (Nat × Nat)} {base : St}
end
end
end Go.Sx
/- The symbolic executor, part AD: answers of any shape (plain parts and rows that the call has made), in any order; a whole array's element at an unknown place; appending to a list from nothing on. Generic over P. -/
set_option linter.unusedVariables false
set_option linter.unusedSimpArgs false
namespace Go.Sx
open Go.RowKit
theorem nbeq {i y : Nat} (e : i ≠ y) : Nat.beq i y = false := by
  cases h : Nat.beq i y with
  | false => rfl
  | true => exact absurd (Nat.eq_of_beq_eq_true h) e
/-! ### Shapes of answers -/
/-! ### On the caller's side: rows get names -/
section
variable {P : Program} {E : Env} {K : Exit → St → Prop} {T : Tab}
/-! ### In regions that draw -/
end
/-! ### On the callee's side -/
section
variable {P : Program} {E : Env} {K : Exit → St → Prop} {T : Tab}
/-! ### A whole array's element -/
/-! ### A list that grows from nothing on -/
def accV (d sz n c : Nat) : AC := match n with
  | 0 => .k (.slice none 0 0)
  | n + 1 => .slc d 0 sz (n + 1) c
theorem GO.appendAcc {ops : Array Oper} {rest : List Oper} {o : Oper} {s y : Operand} {t e size bytes d n c : Nat} {z : Value} {t0 : Nat → TV} {m : Mem} {el : Nat → List Value} {q c1 : Nat} {ty1 : TypeId} (vs : List Value) (tl : List (Nat × TV)) (ml : List (Nat × Blk)) (hp : ApT P t e size bytes z) (hg : o.guard = none) (hop : o.op = .call { callee := .builtin .append, args := #[s, y], argTypes := #[t, t] })
    (hd : o.dst = some d) (hdN : Nat.blt d E.N = true) (hdb : Nat.blt d 1000 = true) (hs : evT t0 s = .v (.c (accV d size n c))) (hx : 0 < n → m d = some (.arr e size n el ((c - n) * size)))
    (hy : evT t0 y = .v (.c (.slc q 0 size 1 c1))) (hq : m q = some (.var ty1 (vs.map .k))) (hv : vs.length = size) (h1 : ∀ u ∈ vs, u.oneCell' = true)
    (hle : St.le E (St.of tl ml) ⟨t0, m⟩) (hfr : ∀ z b, (St.of tl ml).m z = some b → m z = some b ∧ z ≠ d) (hlen : ∀ k, k < n → (el k).length = size) (b1 : n + 1 ≤ maxLen) (b2 : (n + 1) * bytes ≤ 140737488355328)
    (k : ∀ c', n + 1 ≤ c' → GO P E ops K rest ⟨up (St.of tl ml).t d (.v (.c (.slc d 0 size (n + 1) c'))), up (St.of tl ml).m d (some (.arr e size (n + 1) (elN el n vs) ((c' - (n + 1)) * size)))⟩) : GO P E ops K (o :: rest) ⟨t0, m⟩ := by
  have hfree : (St.of tl ml).m d = none := by
    cases h : (St.of tl ml).m d with
    | none => rfl
    | some b => exact absurd rfl (hfr d b h).2
  cases n with
  | succ n => exact GO.appendOwn vs tl ml hp hg hop hd hdN hdb hdb hs (hx (Nat.succ_pos n)) (Nat.le_refl _) hy hq hv h1 hle hfr hfree hlen b1 b2 k
  | zero =>
    intro ρ a w hsat
    have hs0 := hle ρ a w hsat
    have es : a.eval s = .slice none 0 0 := by have := hsat.eval s; simp only [St.ev, hs] at this; exact this.2
    have ex := hsat.eval y
    simp only [St.ev, hy] at ex
    obtain ⟨B, cc, e3, hr⟩ := (RowOf.var (P := P) (E := E) (c := c1) (n := 1) (sz := size) hq (by omega)) ρ w hsat.mem ex.1
    have hone : ∀ i, i < 1 → elN el 0 vs i = vs := fun i hi => by
      have : i = 0 := by omega
      subst this
      exact elN_eq
    have hr' : RdRow w B 1 size (elN el 0 vs) := hr.congr fun i hi => by
      rw [hone i hi]
      have : i = 0 := by omega
      subst this
      simp [← hv]
    have ex : a.eval y = .slice B 1 cc := ex.2.trans e3
    unfold wpL
    rw [if_pos (by simp [Region.wanted, hg])]
    refine .inl ?_
    unfold Oper.wp
    rcases append_new (ty := o.type) hp (A := none) (c := cc) hr' (fun i hi u hu => h1 u (by rw [hone i hi] at hu; exact hu)) (by omega) (by omega) with ⟨h0, _⟩ | ⟨h0, v', w', hrun, r1, r2⟩
    · cases h0
    · have : (execOp a.eval o).run P w = .ok (.value v') w' := by
        simp [execOp, hop, resolve, invoke, builtin, es, ex, hrun, Result.andThen]
      rw [this]
      obtain ⟨ρ', c', h2, h3, h4, h5⟩ := hs0.mem.newOwn hfree (by simpa [Nat.blt_eq] using hdb) (fun i hi => by rw [hone i hi]; exact hv) h0 r1 r2
      refine k c' h2 ρ' _ w' ?_
      rw [hd]
      refine (hs0.move h4 (fun y hy => isSome_up y hy) h3).put (by simpa [Nat.blt_eq] using hdN) ⟨?_, h5⟩
      show (up (St.of tl ml).m d _ d).isSome = true
      rw [up_same]; rfl
/-! ### Another name for where a row lay -/
/-! ### The same, where nothing is known of how long the list is -/
def accB (e : TypeId) (sz n c : Nat) (el : Nat → List Value) : Blk := match n with
  | 0 => .ro sz 0 el
  | n + 1 => .arr e sz (n + 1) el ((c - (n + 1)) * sz)
theorem accB_pos {e : TypeId} {sz n c : Nat} {el : Nat → List Value} (h : 0 < n) : accB e sz n c el = .arr e sz n el ((c - n) * sz) := by
  cases n with
  | zero => omega
  | succ n => rfl
theorem GO.moveAny (hT : Tab.fine P T) {ops : Array Oper} {rest : List Oper} {o : Oper} {y : Operand} {d : Nat} {t0 : Nat → TV} {m : Mem} {a : AV} (hg : o.guard = none) (hop : o.op = .move y ∨ o.op = .assign y) (hd : o.dst = some d) (hdN : Nat.blt d E.N = true) (hy : evT t0 y = .v a)
    (k : GO P E ops K rest ⟨up t0 d (.v a), m⟩) : GO P E ops K (o :: rest) ⟨t0, m⟩ := by
  have hev : evOp T d (evT t0) m o.op = .ok (.v a) m [] := by
    rcases hop with h | h <;> (rw [h]; simp only [evOp, forceTV_eq, hy])
  have hstep : stepE T E.N ops t0 m o = .ok (.v a) m [] := by
    unfold stepE
    have : dstOk E.N o.dst = true := by rw [hd]; exact hdN
    rw [this, hg, hd]
    exact hev
  exact GO.step (st := ⟨t0, m⟩) hT hstep trivial (by rw [hd]; exact k)
theorem G.newNil {c : Code} {t0 : Nat → TV} {m : Mem} (x sz : Nat) (el : Nat → List Value) (hx : m x = none) (k : G P E K c ⟨t0, up m x (some (.ro sz 0 el))⟩) : G P E K c ⟨t0, m⟩ :=
  fun hn ρ a w hs => k hn ρ a w (hs.move (hs.mem.newNil (x := x) (sz := sz) (el := el) hx) (fun y hy => isSome_up y hy) (fun _ _ => rfl))
theorem GO.appendAccB {ops : Array Oper} {rest : List Oper} {o : Oper} {s y : Operand} {t e size bytes d n c : Nat} {z : Value} {t0 : Nat → TV} {m : Mem} {el : Nat → List Value} {q c1 : Nat} {ty1 : TypeId} (vs : List Value) (tl : List (Nat × TV)) (ml : List (Nat × Blk)) (hp : ApT P t e size bytes z) (hg : o.guard = none) (hop : o.op = .call { callee := .builtin .append, args := #[s, y], argTypes := #[t, t] })
    (hd : o.dst = some d) (hdN : Nat.blt d E.N = true) (hdb : Nat.blt d 1000 = true) (hs : evT t0 s = .v (.c (accV d size n c))) (hx : m d = some (accB e size n c el))
    (hy : evT t0 y = .v (.c (.slc q 0 size 1 c1))) (hq : m q = some (.var ty1 (vs.map .k))) (hv : vs.length = size) (h1 : ∀ u ∈ vs, u.oneCell' = true)
    (hle : St.le E (St.of tl ml) ⟨t0, m⟩) (hfr : ∀ z b, (St.of tl ml).m z = some b → m z = some b ∧ z ≠ d) (hlen : ∀ k, k < n → (el k).length = size) (b1 : n + 1 ≤ maxLen) (b2 : (n + 1) * bytes ≤ 140737488355328)
    (k : ∀ c', n + 1 ≤ c' → GO P E ops K rest ⟨up (St.of tl ml).t d (.v (.c (.slc d 0 size (n + 1) c'))), up (St.of tl ml).m d (some (.arr e size (n + 1) (elN el n vs) ((c' - (n + 1)) * size)))⟩) : GO P E ops K (o :: rest) ⟨t0, m⟩ :=
  GO.appendAcc vs tl ml hp hg hop hd hdN hdb hs (fun h0 => by rw [hx, accB_pos h0]) hy hq hv h1 hle hfr hlen b1 b2 k
end
end Go.Sx
/- The symbolic executor, part AE: make of a row, lists that grow from an empty row on. Generic over P. -/
set_option linter.unusedVariables false
set_option linter.unusedSimpArgs false
namespace Go.Sx
open Go.RowKit
section
variable {P : Program} {E : Env} {K : Exit → St → Prop} {T : Tab}
end
end Go.Sx
/- The symbolic executor, part AF: maps from numbers to true (sets of numbers): made, asked, grown. Generic over P. -/
set_option linter.unusedVariables false
set_option linter.unusedSimpArgs false
namespace Go.Sx
open Go.RowKit
section
variable {P : Program} {t kt et : TypeId} {w : World} {r : Nat} {S : Int → Bool} {o : Obj}
end
section
variable {P : Program} {E : Env} {K : Exit → St → Prop} {T : Tab}
theorem Sat.mapAt {ρ : Val} {m : Mem} {w : World} (h : SatM E ρ m w) {x : Nat} {Q : Obj → Prop} (hx : m x = some (.obj Q)) : ∃ o, w.heap[(ρ x).1]? = some o ∧ Q o := (h.ok x _ hx).2.2
end
end Go.Sx
/- The symbolic executor, part AG: rows of ours that calls make and turn (slices.Clone, slices.Delete), a row's own tail moved down, its rest cleared. Generic over P. -/
set_option linter.unusedVariables false
set_option linter.unusedSimpArgs false
namespace Go.Sx
open Go.RowKit
section
variable {P : Program} {E : Env} {K : Exit → St → Prop} {T : Tab}
/-! ### A function that turns a row of its caller's and answers with a part of it -/
/-! ### Slices with three bounds, the empty end of a slice -/
end
end Go.Sx
/- The symbolic executor, part AH: a row's own tail is appended to its head in place, and its rest cleared. Generic over P. -/
set_option linter.unusedVariables false
set_option linter.unusedSimpArgs false
namespace Go.Sx
open Go.RowKit
section
variable {P : Program} {E : Env} {K : Exit → St → Prop} {T : Tab}
end
end Go.Sx
/- The symbolic executor, part AI: append onto an empty row, in regions that draw their order. Generic over P. -/
set_option linter.unusedVariables false
set_option linter.unusedSimpArgs false
namespace Go.Sx
open Go.RowKit
section
variable {P : Program} {E : Env} {K : Exit → St → Prop} {T : Tab}
end
end Go.Sx
/- The symbolic executor, part AJ: structs of structs, compared. Generic over P. -/
set_option linter.unusedVariables false
set_option linter.unusedSimpArgs false
namespace Go.Sx
open Go.RowKit
section
variable {P : Program} {E : Env} {K : Exit → St → Prop} {T : Tab}
end
end Go.Sx
/- The symbolic executor, part AK: structs that hold a row of their own. Generic over P. -/
set_option linter.unusedVariables false
set_option linter.unusedSimpArgs false
namespace Go.Sx
open Go.RowKit
section
variable {P : Program} {E : Env} {K : Exit → St → Prop} {T : Tab}
end
end Go.Sx
/- The symbolic executor, part AL: great arrays of one-cell elements, read and written whole. Generic over P. -/
set_option linter.unusedVariables false
set_option linter.unusedSimpArgs false
namespace Go.Sx
open Go.RowKit
section
variable {P : Program} {E : Env} {K : Exit → St → Prop} {T : Tab}
end
end Go.Sx
/- The symbolic executor, part AM: a row that a call has made gets another name; a nil list gets a name. Generic over P. -/
set_option linter.unusedVariables false
set_option linter.unusedSimpArgs false
namespace Go.Sx
open Go.RowKit
section
variable {P : Program} {E : Env} {K : Exit → St → Prop} {T : Tab}
end
end Go.Sx
/- The symbolic executor, part AN: a slice that lay in a row that came in gets a name. Generic over P. -/
set_option linter.unusedVariables false
set_option linter.unusedSimpArgs false
namespace Go.Sx
open Go.RowKit
section
variable {P : Program} {E : Env} {K : Exit → St → Prop} {T : Tab}
theorem SatM.addRo {ρ : Val} {m : Mem} {w' : World} (h : SatM E ρ m w') {x n sz cap : Nat} (hx : m x = none) (hxb : x < 1000) {A : Option Addr} {el : Nat → List Value}
    (hr : 0 < n → ∃ b o, A = some ⟨b, o, none⟩ ∧ b < w'.heap.size ∧ (∀ y k, m y = some k → k.own → (ρ y).1 ≠ b) ∧ ∀ i, i < n → (el i).length = sz ∧ ∀ j, j < sz → w'.cell? ⟨b, o + (i * sz + j), none⟩ = (el i)[j]?) :
    ∃ ρ' : Val, (∀ y, (m y).isSome = true → ρ' y = ρ y) ∧ SatM E ρ' (up m x (some (.ro sz n el))) w' ∧ AC.ok ρ' (up m x (some (.ro sz n el))) (.inp x A n cap) := by
  obtain ⟨p, hp0⟩ : ∃ p : Nat × Nat, p = (A.map fun a => (a.block, a.off)).getD (0, 0) := ⟨_, rfl⟩
  have hρ : ∀ y, (m y).isSome = true → up ρ x p y = ρ y := fun y hy => up_other _ _ (fun e => by subst e; simp [hx] at hy)
  have hp : 0 < n → p.1 < w'.heap.size ∧ A = some ⟨p.1, p.2, none⟩ ∧ (∀ y k, m y = some k → k.own → (ρ y).1 ≠ p.1) ∧ ∀ i, i < n → (el i).length = sz ∧ ∀ j, j < sz → w'.cell? ⟨p.1, p.2 + (i * sz + j), none⟩ = (el i)[j]? := by
    intro h0
    obtain ⟨b, o, rfl, h1, hn, h3⟩ := hr h0
    subst hp0
    exact ⟨h1, rfl, hn, h3⟩
  refine ⟨up ρ x p, hρ, ⟨h.fr, fun q hq => ?_, fun y c hy => ?_, fun y z c d hy hz hc hd hne => ?_⟩, ?_, fun h0 => ?_⟩
  · have := h.bo q hq
    rw [up_other _ _ (by omega)]; exact this
  · by_cases e : y = x
    · subst e
      rw [up_same] at hy
      injection hy with hy
      subst hy
      intro h0
      obtain ⟨h2, _, _, h3⟩ := hp h0
      rw [up_same]
      exact ⟨h2, h3⟩
    · rw [up_other _ _ e] at hy
      have hk := h.ok y c hy
      have ey : up ρ x p y = ρ y := up_other _ _ e
      cases c with
      | var ty cells =>
        have hcm : cells.map (AC.conc (up ρ x p)) = cells.map (AC.conc ρ) := List.map_congr_left fun c hm => AC.conc_mono hρ (hk.2.2.2 c hm)
        exact ⟨by rw [ey]; exact hk.1, by rw [ey]; exact hk.2.1, by rw [ey, hcm]; exact hk.2.2.1, fun c hc => AC.ok_mono (fun z hz => isSome_up z hz) hρ (hk.2.2.2 c hc)⟩
      | arr ty sz n el room =>
        obtain ⟨h1, h2, a, ha, hs, he⟩ := hk
        exact ⟨by rw [ey]; exact h1, by rw [ey]; exact h2, a, by rw [ey]; exact ha, hs, he⟩
      | obj Q =>
        obtain ⟨h1, h2, a, ha, hs⟩ := hk
        exact ⟨by rw [ey]; exact h1, by rw [ey]; exact h2, a, by rw [ey]; exact ha, hs⟩
      | ro sz n el =>
        intro hn
        rw [ey]
        exact hk hn
      | say S R => exact hk
  · by_cases e1 : y = x
    · subst e1
      rw [up_same] at hy
      injection hy with hy
      subst hy
      exact hc.elim
    · rw [up_other _ _ e1] at hy
      by_cases e2 : z = x
      · subst e2
        rw [up_same] at hz
        injection hz with hz
        subst hz
        rw [up_same, up_other _ _ e1]
        exact (hp hd).2.2.1 y c hy hc
      · rw [up_other _ _ e2] at hz
        rw [up_other _ _ e1, up_other _ _ e2]
        exact h.ne y z c d hy hz hc hd hne
  · rw [up_same]; rfl
  · rw [up_same]
    exact (hp h0).2.1
end
end Go.Sx
/- The symbolic executor, part AO: what is told of the world and not of a block (says): slices frozen to constants, slices opened again, calls that answer anything, the entry with what is told. Generic over P. -/
set_option linter.unusedVariables false
set_option linter.unusedSimpArgs false
namespace Go.Sx
open Go.RowKit
/-- The blocks of a slice; of a value that holds slices. -/
def sb : Value → Nat → Prop
  | .slice A n _, k => 0 < n ∧ ∃ a, A = some a ∧ a.block = k
  | _, _ => False
theorem steady_row {A : Option Addr} {n sz cap : Nat} {el : Nat → List Value} : Steady (sb (.slice A n cap)) (fun w => RdRow w A n sz el) := by
  intro w1 w2 h1 h2 h h0
  obtain ⟨b, o, rfl, h3, h4⟩ := h h0
  refine ⟨b, o, rfl, Nat.lt_of_lt_of_le h3 h2, fun i hi => ⟨(h4 i hi).1, fun j hj => ?_⟩⟩
  rw [← (h4 i hi).2 j hj]
  exact World.cell?_of_block (w := w1) (h1 b ⟨h0, _, rfl, rfl⟩)
theorem Steady.mono {S S' : Nat → Prop} {R : World → Prop} (h : Steady S R) (hs : ∀ k, S k → S' k) : Steady S' R := fun w1 w2 h1 h2 hr => h w1 w2 (fun k hk => h1 k (hs k hk)) h2 hr
theorem Steady.and {S : Nat → Prop} {R R' : World → Prop} (h : Steady S R) (h' : Steady S R') : Steady S (fun w => R w ∧ R' w) := fun w1 w2 h1 h2 hr => ⟨h w1 w2 h1 h2 hr.1, h' w1 w2 h1 h2 hr.2⟩
theorem Steady.heap {S : Nat → Prop} {g : Nat} {o : Obj} (h : S g) : Steady S (fun w => w.heap[g]? = some o) := fun w1 w2 h1 _ hr => (h1 g h).trans hr
section
variable {P : Program} {E : Env} {K : Exit → St → Prop} {T : Tab}
theorem GO.sem {ops : Array Oper} {rest : List Oper} {st : St} (h : ∀ ρ a w, Sat E ρ st a w → ∃ ρ' st', Sat E ρ' st' a w ∧ GO P E ops K rest st') : GO P E ops K rest st := fun ρ a w hs =>
  let ⟨ρ', _, hs', k⟩ := h ρ a w hs
  k ρ' a w hs'
theorem G.sem {c : Code} {st : St} (h : ∀ ρ a w, Sat E ρ st a w → ∃ ρ' st', Sat E ρ' st' a w ∧ G P E K c st') : G P E K c st := fun hn ρ a w hs =>
  let ⟨ρ', _, hs', k⟩ := h ρ a w hs
  k hn ρ' a w hs'
/-- The memory is told of in other words; the world may have turned elsewhere. -/
theorem SatM.swap {ρ : Val} {m m' : Mem} {w w' : World} (h : SatM E ρ m w) (hfr : Fr E.w0 (E.bor.map (·.2)) w') (hsz : w.heap.size ≤ w'.heap.size) (hmm : ∀ x, (m x).isSome = true → (m' x).isSome = true)
    (hb : ∀ x b, m' x = some b → (m x = some b ∧ ∀ k, b.live → b.hits (ρ x) k → w'.heap[k]? = w.heap[k]?) ∨
      (∃ S R, b = .say S R ∧ R w' ∧ (∀ k, S k → k < w'.heap.size) ∧ Steady S R ∧ ∀ y c, y ≠ x → m' y = some c → c.own → ¬ S (ρ y).1) ∨ (∃ sz el, b = .ro sz 0 el)) : SatM E ρ m' w' := by
  refine ⟨hfr, h.bo, fun x b hx => ?_, fun x y b c hx hy ho hl hne => ?_⟩
  · rcases hb x b hx with ⟨h1, h2⟩ | ⟨S, R, rfl, h1, h2, h3, _⟩ | ⟨sz, el, rfl⟩
    · exact (h.ok x b h1).far hmm hsz fun k hk hl => h2 k hl hk
    · exact ⟨h1, h2, h3⟩
    · exact fun h0 => absurd h0 (Nat.lt_irrefl 0)
  · rcases hb x b hx with ⟨h1, h2⟩ | ⟨S, R, rfl, _⟩ | ⟨sz, el, rfl⟩
    · rcases hb y c hy with ⟨h3, h4⟩ | ⟨S, R, rfl, _, _, _, h5⟩ | ⟨sz, el, rfl⟩
      · exact h.ne x y b c h1 h3 ho hl hne
      · exact h5 x b hne hx ho
      · exact absurd hl (Nat.lt_irrefl 0)
    · exact ho.elim
    · exact ho.elim
theorem Sat.remem {ρ : Val} {t : Nat → TV} {m m' : Mem} {a : Act} {w w' : World} (h : Sat E ρ ⟨t, m⟩ a w) (hm : SatM E ρ m' w') (hmm : ∀ x, (m x).isSome = true → (m' x).isSome = true) {d : Nat} {tv : TV} (hd : tv.rep ρ m' (a.tmps.getD d undef)) : Sat E ρ ⟨up t d tv, m'⟩ a w' := by
  refine ⟨hm, h.df, h.sz, fun j => ?_⟩
  by_cases hj : j = d
  · subst hj
    show TV.rep ρ m' (up t j tv j) _
    rw [up_same]; exact hd
  · show TV.rep ρ m' (up t d tv j) _
    rw [up_other _ _ hj]
    exact TV.rep_mono hmm (fun _ _ => rfl) (h.tm j)
theorem Sat.remem0 {ρ : Val} {t : Nat → TV} {m m' : Mem} {a : Act} {w w' : World} (h : Sat E ρ ⟨t, m⟩ a w) (hm : SatM E ρ m' w') (hmm : ∀ x, (m x).isSome = true → (m' x).isSome = true) : Sat E ρ ⟨t, m'⟩ a w' :=
  ⟨hm, h.df, h.sz, fun j => TV.rep_mono hmm (fun _ _ => rfl) (h.tm j)⟩
theorem SatM.ownGe {ρ : Val} {m : Mem} {w : World} (h : SatM E ρ m w) {x : Nat} {b : Blk} (hx : m x = some b) (ho : b.own) : E.w0.heap.size ≤ (ρ x).1 ∨ (x, (ρ x).1) ∈ E.bor := ((h.ok x b hx).place ho).2
/-- A row of ours becomes a constant. -/
theorem Sat.freezeArr {ρ : Val} {t : Nat → TV} {m : Mem} {a : Act} {w : World} (h : Sat E ρ ⟨t, m⟩ a w) {x d n sz c n2 room : Nat} {ty : TypeId} {el : Nat → List Value} (ht : t d = .v (.c (.slc x 0 sz n c))) (hm : m x = some (.arr ty sz n2 el room)) (hn : n ≤ n2) :
    Sat E ρ ⟨up t d (.v (.c (.k (.slice (some ⟨(ρ x).1, 0, none⟩) n c)))), up m x (some (.say (· = (ρ x).1) fun w => RdRow w (some ⟨(ρ x).1, 0, none⟩) n sz el))⟩ a w := by
  have hk := h.mem.ok x _ hm
  have hsz : ∀ y, (m y).isSome = true → (up m x (some (.say (· = (ρ x).1) fun w => RdRow w (some ⟨(ρ x).1, 0, none⟩) n sz el)) y).isSome = true := fun y hy => isSome_up y hy
  refine h.remem (h.mem.swap h.mem.fr (Nat.le_refl _) hsz fun y b hy => ?_) hsz ?_
  · by_cases e : y = x
    · subst e
      rw [up_same] at hy
      injection hy with hy
      subst hy
      refine .inr (.inl ⟨_, _, rfl, ?_, ?_, ?_, fun z c hz hc ho => ?_⟩)
      · have := (h.mem.rdArr hm 0 n (by omega))
        simp only [Nat.zero_mul, Nat.add_zero, Nat.zero_add, hk.1] at this
        exact this
      · rintro k rfl; exact h.mem.lt hm trivial
      · exact (steady_row (cap := c)).mono fun k hk => by obtain ⟨_, a, e, rfl⟩ := hk; cases e; rfl
      · rw [up_other _ _ hz] at hc
        exact h.mem.ne z y c _ hc hm ho trivial hz
    · rw [up_other _ _ e] at hy
      exact .inl ⟨hy, fun _ _ _ => rfl⟩
  · have hd := h.tm d
    rw [show (St.mk t m).t d = _ from ht] at hd
    refine ⟨trivial, hd.2.trans ?_⟩
    simp [AV.conc, AC.conc, hk.1]
theorem GO.freezeArr {ops : Array Oper} {rest : List Oper} {t : Nat → TV} {m : Mem} (x d : Nat) {n sz c n2 room : Nat} {ty : TypeId} {el : Nat → List Value} (ht : t d = .v (.c (.slc x 0 sz n c))) (hm : m x = some (.arr ty sz n2 el room)) (hn : n ≤ n2)
    (k : ∀ g, (E.w0.heap.size ≤ g ∨ (x, g) ∈ E.bor) → GO P E ops K rest ⟨up t d (.v (.c (.k (.slice (some ⟨g, 0, none⟩) n c)))), up m x (some (.say (· = g) fun w => RdRow w (some ⟨g, 0, none⟩) n sz el))⟩) : GO P E ops K rest ⟨t, m⟩ :=
  GO.sem fun ρ a w hs => ⟨ρ, _, hs.freezeArr ht hm hn, k _ (hs.mem.ownGe hm trivial)⟩
theorem G.freezeArr {c0 : Code} {t : Nat → TV} {m : Mem} (x d : Nat) {n sz c n2 room : Nat} {ty : TypeId} {el : Nat → List Value} (ht : t d = .v (.c (.slc x 0 sz n c))) (hm : m x = some (.arr ty sz n2 el room)) (hn : n ≤ n2)
    (k : ∀ g, (E.w0.heap.size ≤ g ∨ (x, g) ∈ E.bor) → G P E K c0 ⟨up t d (.v (.c (.k (.slice (some ⟨g, 0, none⟩) n c)))), up m x (some (.say (· = g) fun w => RdRow w (some ⟨g, 0, none⟩) n sz el))⟩) : G P E K c0 ⟨t, m⟩ :=
  G.sem fun ρ a w hs => ⟨ρ, _, hs.freezeArr ht hm hn, k _ (hs.mem.ownGe hm trivial)⟩
/-- A constant slice of which something is told gets a name. -/
theorem Sat.openSay {ρ : Val} {t : Nat → TV} {m : Mem} {a : Act} {w : World} (h : Sat E ρ ⟨t, m⟩ a w) {X y d n sz cap : Nat} {A : Option Addr} {el : Nat → List Value} {S : Nat → Prop} {R : World → Prop} (hX : m X = some (.say S R)) (hR : ∀ w, R w → RdRow w A n sz el) (hS : ∀ k, sb (.slice A n cap) k → S k)
    (ht : t d = .v (.c (.k (.slice A n cap)))) (hy : m y = none) (hyb : y < 1000) : ∃ ρ', Sat E ρ' ⟨up t d (.v (.c (.inp y A n cap))), up m y (some (.ro sz n el))⟩ a w := by
  have hk := h.mem.ok X _ hX
  obtain ⟨ρ', h1, h2, h3⟩ := h.mem.addRo (cap := cap) hy hyb (A := A) (n := n) (sz := sz) (el := el) fun h0 => by
    obtain ⟨b, o, rfl, h4, h5⟩ := hR w hk.1 h0
    refine ⟨b, o, rfl, h4, fun z c hz hc e => ?_, h5⟩
    have hzX : z ≠ X := fun e => by subst e; have := hX.symm.trans hz; cases this; exact hc
    exact h.mem.ne z X c _ hz hX hc trivial hzX (show S (ρ z).1 from hS _ ⟨h0, _, rfl, e.symm⟩)
  have hd := h.tm d
  rw [show (St.mk t m).t d = _ from ht] at hd
  have hmv := h.move h2 (fun z hz => isSome_up z hz) h1
  exact ⟨ρ', hmv.remem h2 (fun z hz => hz) ⟨h3, hd.2⟩⟩
theorem GO.openSay {ops : Array Oper} {rest : List Oper} {t : Nat → TV} {m : Mem} (X y d : Nat) {n sz cap : Nat} {A : Option Addr} {el : Nat → List Value} {S : Nat → Prop} {R : World → Prop} (hX : m X = some (.say S R)) (hR : ∀ w, R w → RdRow w A n sz el) (hS : ∀ k, sb (.slice A n cap) k → S k)
    (ht : t d = .v (.c (.k (.slice A n cap)))) (hy : m y = none) (hyb : Nat.blt y 1000 = true) (k : GO P E ops K rest ⟨up t d (.v (.c (.inp y A n cap))), up m y (some (.ro sz n el))⟩) : GO P E ops K rest ⟨t, m⟩ :=
  GO.sem fun ρ a w hs => let ⟨ρ', h⟩ := hs.openSay hX hR hS ht hy (by simpa [Nat.blt_eq] using hyb); ⟨ρ', _, h, k⟩
theorem G.openSay {c : Code} {t : Nat → TV} {m : Mem} (X y d : Nat) {n sz cap : Nat} {A : Option Addr} {el : Nat → List Value} {S : Nat → Prop} {R : World → Prop} (hX : m X = some (.say S R)) (hR : ∀ w, R w → RdRow w A n sz el) (hS : ∀ k, sb (.slice A n cap) k → S k)
    (ht : t d = .v (.c (.k (.slice A n cap)))) (hy : m y = none) (hyb : Nat.blt y 1000 = true) (k : G P E K c ⟨up t d (.v (.c (.inp y A n cap))), up m y (some (.ro sz n el))⟩) : G P E K c ⟨t, m⟩ :=
  G.sem fun ρ a w hs => let ⟨ρ', h⟩ := hs.openSay hX hR hS ht hy (by simpa [Nat.blt_eq] using hyb); ⟨ρ', _, h, k⟩
/-- A constant pointer at a block that is only read. -/
theorem Sat.openPtr {ρ : Val} {t : Nat → TV} {m : Mem} {a : Act} {w : World} (h : Sat E ρ ⟨t, m⟩ a w) {X y d b : Nat} {ty : TypeId} {cs : List Value} {S : Nat → Prop} {R : World → Prop} (hX : m X = some (.say S R)) (hR : ∀ w, R w → w.heap[b]? = some (.cells cs.toArray ty (0, 0))) (hS : S b)
    (ht : t d = .v (.c (.k (.pointer (some ⟨b, 0, none⟩))))) (hy : m y = none) (hyb : y < 1000) : ∃ ρ', Sat E ρ' ⟨up t d (.v (.c (.ptr y 0 cs.length 0))), up m y (some (.ro cs.length 1 fun _ => cs))⟩ a w := by
  have hk := h.mem.ok X _ hX
  have hb := hR w hk.1
  obtain ⟨ρ', h1, h2, h3⟩ := h.mem.addRo (cap := 1) hy hyb (A := some ⟨b, 0, none⟩) (n := 1) (sz := cs.length) (el := fun _ => cs) fun _ => by
    refine ⟨b, 0, rfl, lt_of_heap hb, fun z c hz hc e => ?_, fun i hi => ⟨rfl, fun j hj => ?_⟩⟩
    · have hzX : z ≠ X := fun e => by subst e; have := hX.symm.trans hz; cases this; exact hc
      exact h.mem.ne z X c _ hz hX hc trivial hzX (show S (ρ z).1 from e ▸ hS)
    · have : i = 0 := by omega
      subst this
      rw [Nat.zero_mul, Nat.zero_add, Nat.zero_add, cell_of_heap hb, List.getElem?_toArray]
  have hd := h.tm d
  rw [show (St.mk t m).t d = _ from ht] at hd
  have hmv := h.move h2 (fun z hz => isSome_up z hz) h1
  refine ⟨ρ', hmv.remem h2 (fun z hz => hz) ⟨h3.1, hd.2.trans ?_⟩⟩
  have := h3.2 (by omega)
  injection this with this
  injection this with e1 e2
  simp [AV.conc, AC.conc, ← e1, ← e2]
theorem GO.openPtr {ops : Array Oper} {rest : List Oper} {t : Nat → TV} {m : Mem} (X y d : Nat) {b : Nat} {ty : TypeId} {cs : List Value} {S : Nat → Prop} {R : World → Prop} (hX : m X = some (.say S R)) (hR : ∀ w, R w → w.heap[b]? = some (.cells cs.toArray ty (0, 0))) (hS : S b)
    (ht : t d = .v (.c (.k (.pointer (some ⟨b, 0, none⟩))))) (hy : m y = none) (hyb : Nat.blt y 1000 = true) (k : GO P E ops K rest ⟨up t d (.v (.c (.ptr y 0 cs.length 0))), up m y (some (.ro cs.length 1 fun _ => cs))⟩) : GO P E ops K rest ⟨t, m⟩ :=
  GO.sem fun ρ a w hs => let ⟨ρ', h⟩ := hs.openPtr hX hR hS ht hy (by simpa [Nat.blt_eq] using hyb); ⟨ρ', _, h, k⟩
theorem G.openPtr {c : Code} {t : Nat → TV} {m : Mem} (X y d : Nat) {b : Nat} {ty : TypeId} {cs : List Value} {S : Nat → Prop} {R : World → Prop} (hX : m X = some (.say S R)) (hR : ∀ w, R w → w.heap[b]? = some (.cells cs.toArray ty (0, 0))) (hS : S b)
    (ht : t d = .v (.c (.k (.pointer (some ⟨b, 0, none⟩))))) (hy : m y = none) (hyb : Nat.blt y 1000 = true) (k : G P E K c ⟨up t d (.v (.c (.ptr y 0 cs.length 0))), up m y (some (.ro cs.length 1 fun _ => cs))⟩) : G P E K c ⟨t, m⟩ :=
  G.sem fun ρ a w hs => let ⟨ρ', h⟩ := hs.openPtr hX hR hS ht hy (by simpa [Nat.blt_eq] using hyb); ⟨ρ', _, h, k⟩
/-- Something more is told of the world. -/
theorem Sat.tell {ρ : Val} {t : Nat → TV} {m : Mem} {a : Act} {w : World} (h : Sat E ρ ⟨t, m⟩ a w) {y : Nat} (S : Nat → Prop) (R : World → Prop) (hr : R w) (hs : ∀ k, S k → k < w.heap.size) (hst : Steady S R) (hy : ∀ b, m y = some b → ∃ S R, b = .say S R) (hn : ∀ z c, m z = some c → c.own → ¬ S (ρ z).1) :
    Sat E ρ ⟨t, up m y (some (.say S R))⟩ a w := by
  refine h.remem0 (h.mem.swap h.mem.fr (Nat.le_refl _) (fun z hz => isSome_up z hz) fun z b hz => ?_) fun z hz => isSome_up z hz
  by_cases e : z = y
  · subst e
    rw [up_same] at hz
    injection hz with hz
    subst hz
    refine .inr (.inl ⟨S, R, rfl, hr, hs, hst, fun z2 c hz2 hc ho => ?_⟩)
    rw [up_other _ _ hz2] at hc
    exact hn z2 c hc ho
  · rw [up_other _ _ e] at hz
    exact .inl ⟨hz, fun _ _ _ => rfl⟩
/-- A call that answers any value, of which something is told. -/
theorem SatM.told {ρ : Val} {m : Mem} {w w' : World} (h : SatM E ρ m w) (hb : Below w.heap.size w w') {x : Nat} {S : Nat → Prop} {R : World → Prop} (hx : m x = none) (hr : R w') (hs : ∀ k, S k → w.heap.size ≤ k ∧ k < w'.heap.size) (hst : Steady S R) : SatM E ρ (up m x (some (.say S R))) w' := by
  have h2 := h.below hb
  refine h2.swap h2.fr (Nat.le_refl _) (fun z hz => isSome_up z hz) fun z b hz => ?_
  by_cases e : z = x
  · subst e
    rw [up_same] at hz
    injection hz with hz
    subst hz
    refine .inr (.inl ⟨S, R, rfl, hr, fun k hk => (hs k hk).2, hst, fun z2 c hz2 hc ho hk => ?_⟩)
    rw [up_other _ _ hz2] at hc
    have := h.lt hc ho
    have := (hs _ hk).1
    omega
  · rw [up_other _ _ e] at hz
    exact .inl ⟨hz, fun _ _ _ => rfl⟩
theorem GO.callSay {ι : Type} {ops : Array Oper} {rest : List Oper} {o : Oper} {c : Call} {f : FuncId} {avs : List AV} {caps : List Cap} {t : Nat → TV} {m : Mem} (x : Nat) (val : ι → Value) (S : ι → Nat → Prop) (R : ι → World → Prop) (hg : o.guard = none) (hop : o.op = .call c) (he : callE t c = .mk f avs caps) (hd : dstOk E.N o.dst = true) (hx : m x = none)
    (hcf : ∀ (args : Array Value) (w : World), (callFunc f args).run P w = .ok (.enter f args) w)
    (hc : ∀ ρ w, SatM E ρ m w → (∀ v ∈ avs, v.ok ρ m) → Calls P f (avs.map (AV.conc ρ) ++ caps.map (Cap.conc ρ)).toArray w fun e w' => ∃ i, e = .returned (val i) ∧ Below w.heap.size w w' ∧ R i w' ∧ (∀ k, S i k → w.heap.size ≤ k ∧ k < w'.heap.size) ∧ Steady (S i) (R i))
    (k : ∀ i, GO P E ops K rest ⟨Sx.putT t o.dst (toTV (val i)), up m x (some (.say (S i) (R i)))⟩) : GO P E ops K (o :: rest) ⟨t, m⟩ := by
  refine GO.call hg hop he hcf (fun ρ a w hs hok _ => (hc ρ w hs.mem hok).mono ?_)
  rintro e w' ⟨i, rfl, hb, hr, hk, hst⟩
  exact ⟨_, ρ, _, rfl, ((hs.below hb).remem0 (hs.mem.told hb hx hr hk hst) (fun z hz => isSome_up z hz)).putT (dstOk_lt hd) (toTV_rep _ _ _), k i⟩
/-! ### The entry -/
def borT (n : Nat) : List Nat → List (Nat × Nat)
  | [] => []
  | g :: r => (n, g) :: borT (n + 1) r
def ρT (n : Nat) : List Nat → Val
  | [], _ => (0, 0)
  | g :: r, x => bif Nat.beq x n then (g, 0) else ρT (n + 1) r x
theorem borT_snd (n : Nat) (T : List Nat) : (borT n T).map (·.2) = T := by
  induction T generalizing n with
  | nil => rfl
  | cons g r ih => simp [borT, ih]
theorem borT_mem {n : Nat} {T : List Nat} {p : Nat × Nat} (h : p ∈ borT n T) : n ≤ p.1 ∧ ρT n T p.1 = (p.2, 0) := by
  induction T generalizing n with
  | nil => cases h
  | cons g r ih =>
    cases h with
    | head => exact ⟨Nat.le_refl _, by simp [ρT]⟩
    | tail _ h =>
      obtain ⟨h1, h2⟩ := ih h
      refine ⟨by omega, ?_⟩
      rw [ρT]
      have : Nat.beq p.1 n = false := nbeq (by omega)
      rw [this]; exact h2
def isK : List AC → List Value → Prop
  | [], [] => True
  | .k v :: r, u :: s => v = u ∧ isK r s
  | _, _ => False
theorem isK_eq {cs : List AC} {vs : List Value} (h : isK cs vs) : cs = vs.map .k := by
  induction cs generalizing vs with
  | nil => cases vs with
    | nil => rfl
    | cons _ _ => cases h
  | cons c r ih => cases vs with
    | nil => cases c <;> cases h
    | cons u s => cases c <;> first
        | (obtain ⟨rfl, h⟩ := h; rw [ih h]; rfl)
        | cases h
/-- What is told at the start: of the world, or of a block that may be turned. -/
def ent (n : Nat) (T : List Nat) (w : World) (x : Nat) : Blk → Prop
  | .say S R => R w ∧ (∀ k, S k → k < w.heap.size) ∧ Steady S R
  | .var ty cells => (x, (ρT n T x).1) ∈ borT n T ∧ ∃ vs, isK cells vs ∧ w.heap[(ρT n T x).1]? = some (.cells vs.toArray ty (0, 0))
  | _ => False
def sepB (n : Nat) (T : List Nat) (x : Nat) (b : Blk) : List (Nat × Blk) → Prop
  | [] => True
  | p :: r => (b.own → ¬ p.2.hits (ρT n T p.1) (ρT n T x).1) ∧ (p.2.own → ¬ b.hits (ρT n T x) (ρT n T p.1).1) ∧ sepB n T x b r
def mlOK (n : Nat) (T : List Nat) (w : World) : List (Nat × Blk) → Prop
  | [] => True
  | p :: r => ent n T w p.1 p.2 ∧ sepB n T p.1 p.2 r ∧ mlOK n T w r
theorem sepB_mem {n : Nat} {T : List Nat} {x : Nat} {b : Blk} {l : List (Nat × Blk)} (h : sepB n T x b l) : ∀ p ∈ l, (b.own → ¬ p.2.hits (ρT n T p.1) (ρT n T x).1) ∧ (p.2.own → ¬ b.hits (ρT n T x) (ρT n T p.1).1) := by
  induction l with
  | nil => intro p hp; cases hp
  | cons q r ih =>
    intro p hp
    cases hp with
    | head => exact ⟨h.1, h.2.1⟩
    | tail _ hp => exact ih h.2.2 p hp
theorem mlOK_ent {n : Nat} {T : List Nat} {w : World} {l : List (Nat × Blk)} (h : mlOK n T w l) : ∀ p ∈ l, ent n T w p.1 p.2 := by
  induction l with
  | nil => intro p hp; cases hp
  | cons q r ih =>
    intro p hp
    cases hp with
    | head => exact h.1
    | tail _ hp => exact ih h.2.2 p hp
theorem mlOK_sep {n : Nat} {T : List Nat} {w : World} {l : List (Nat × Blk)} (h : mlOK n T w l) : ∀ p ∈ l, ∀ q ∈ l, p.1 ≠ q.1 → (p.2.own → ¬ q.2.hits (ρT n T q.1) (ρT n T p.1).1) := by
  induction l with
  | nil => intro p hp; cases hp
  | cons u r ih =>
    intro p hp q hq hne ho
    cases hp with
    | head =>
      cases hq with
      | head => exact absurd rfl hne
      | tail _ hq => exact (sepB_mem h.2.1 q hq).1 ho
    | tail _ hp =>
      cases hq with
      | head => exact (sepB_mem h.2.1 p hp).2 ho
      | tail _ hq => exact ih h.2.2 p hp q hq hne ho
def allK (a : Array Value) : List (Nat × TV) → Prop
  | [] => True
  | p :: r => p.2 = toTV (a.getD p.1 undef) ∧ allK a r
theorem allK_mem {a : Array Value} {l : List (Nat × TV)} (h : allK a l) : ∀ p ∈ l, p.2 = toTV (a.getD p.1 undef) := by
  induction l with
  | nil => intro p hp; cases hp
  | cons q r ih =>
    intro p hp
    cases hp with
    | head => exact h.1
    | tail _ hp => exact ih h.2 p hp
theorem Sat.say0 {n N : Nat} {T : List Nat} {w : World} {rnd : Option Nat} {dfr : List Deferred} {a : Act} {tl : List (Nat × TV)} {ml : List (Nat × Blk)} (hn : 1000 ≤ n) (hdf : a.defers = dfr) (hsz : a.tmps.size = N) (ht : allK a.tmps tl) (hm : mlOK n T w ml) :
    Sat ⟨w, borT n T, N, rnd, dfr⟩ (ρT n T) (St.of tl ml) a w := by
  have e1 : ∀ x b, lkM ml x = some b → (x, b) ∈ ml := by
    intro x b hx
    rcases lkM_mem (ml := ml) (j := x) with h | ⟨p, hp, rfl, h2⟩
    · rw [h] at hx; cases hx
    · rw [h2] at hx; cases hx; exact hp
  refine ⟨⟨Fr.refl _ _, fun p hp => ?_, fun x b hx => ?_, fun x y b c hx hy ho hl hne => ?_⟩, hdf, hsz, fun j => ?_⟩
  · obtain ⟨h1, h2⟩ := borT_mem hp
    exact ⟨h2, by omega⟩
  · have := mlOK_ent hm _ (e1 x b hx)
    cases b with
    | say S R => exact this
    | var ty cells =>
      obtain ⟨h1, vs, h2, h3⟩ := this
      obtain ⟨_, h4⟩ := borT_mem h1
      obtain rfl := isK_eq h2
      refine ⟨by rw [show ρT n T x = _ from h4], .inr h1, ?_, fun c hc => by obtain ⟨v, _, rfl⟩ := List.mem_map.1 hc; trivial⟩
      rw [map_conc_k]; exact h3
    | _ => exact this.elim
  · exact mlOK_sep hm _ (e1 x b hx) _ (e1 y c hy) hne ho
  · show (lkT tl j).rep _ _ _
    rcases lkT_mem (tl := tl) (j := j) with h | ⟨p, hp, rfl, h2⟩
    · rw [h]; trivial
    · rw [h2, allK_mem ht p hp]
      exact toTV_rep _ _ _
def cnA : AC → Prop
  | .k _ => True
  | _ => False
def cnL : List AC → Prop
  | [] => True
  | a :: r => cnA a ∧ cnL r
def cnV : AV → Prop
  | .c a => cnA a
  | .agg l => cnL l
def allCn : List AV → Prop
  | [] => True
  | a :: r => cnV a ∧ allCn r
theorem cnA_rep {a : AC} (h : cnA a) (ρ ρ' : Val) (m : Mem) : a.ok ρ m ∧ a.conc ρ' = a.conc ρ := by
  cases a <;> first
    | exact ⟨trivial, rfl⟩
    | exact h.elim
theorem cnL_rep {l : List AC} (h : cnL l) (ρ ρ' : Val) (m : Mem) : (∀ a ∈ l, a.ok ρ m) ∧ l.map (AC.conc ρ') = l.map (AC.conc ρ) := by
  induction l with
  | nil => exact ⟨(fun a ha => by cases ha), rfl⟩
  | cons a r ih =>
    refine ⟨fun b hb => ?_, by rw [List.map_cons, List.map_cons, (cnA_rep h.1 ρ ρ' m).2, (ih h.2).2]⟩
    cases hb with
    | head => exact (cnA_rep h.1 ρ ρ' m).1
    | tail _ hb => exact (ih h.2).1 b hb
theorem cnV_rep {a : AV} (h : cnV a) (ρ ρ' : Val) (m : Mem) : a.ok ρ m ∧ a.conc ρ' = a.conc ρ := by
  cases a with
  | c a => exact cnA_rep h ρ ρ' m
  | agg l => exact ⟨(cnL_rep h ρ ρ' m).1, by simp only [AV.conc, (cnL_rep h ρ ρ' m).2]⟩
theorem allCn_mem {l : List AV} (h : allCn l) : ∀ a ∈ l, cnV a := by
  induction l with
  | nil => intro a ha; cases ha
  | cons b r ih =>
    intro a ha
    cases ha with
    | head => exact h.1
    | tail _ ha => exact ih h.2 a ha
/-- A function that is entered with constants, and with what is told of the world. -/
theorem enterSay {f : FuncId} {fn : Func} {c : Code} {args : Array Value} {w : World} {R : Ending → World → Prop} (T : List Nat) (avs : List AV) (ml : List (Nat × Blk)) (hf : P.funcs[f]? = some fn) (hb : fn.body = some c) (N : Nat) (hN : fn.ntmps = N) (hargs : args = (avs.map (AV.conc fun _ => (0, 0))).toArray)
    (hl : Nat.ble avs.length N = true) (hc : allCn avs) (hm : mlOK 1000 T w ml) (h : G P ⟨w, borT 1000 T, N, none, []⟩ (retK P ⟨w, borT 1000 T, N, none, []⟩ fn R) c ⟨argsT avs, lkM ml⟩) : Calls P f args w R := by
  subst hN
  have hl := Nat.le_of_ble_eq_true hl
  have h0 : Sat ⟨w, borT 1000 T, fn.ntmps, none, []⟩ (ρT 1000 T) (St.of [] ml) { tmps := args ++ Array.replicate (fn.ntmps - args.size) undef, defers := [] } w :=
    Sat.say0 (Nat.le_refl _) rfl (by rw [hargs]; simp; omega) trivial hm
  refine enter rfl (st := ⟨argsT avs, lkM ml⟩) hf hb (ρT 1000 T) ⟨h0.mem, h0.df, h0.sz, fun j => ?_⟩ h
  show (argsT avs j).rep _ _ _
  unfold argsT
  cases hj : avs[j]? with
  | none => trivial
  | some a =>
    have hlt : j < avs.length := (List.getElem?_eq_some_iff.1 hj).1
    have hmem : a ∈ avs := List.mem_of_getElem? hj
    have hr := cnV_rep (allCn_mem hc a hmem) (ρT 1000 T) (fun _ => (0, 0)) (lkM ml)
    refine ⟨hr.1, ?_⟩
    rw [← hr.2, hargs, Array.getD_eq_getD_getElem?, Array.getElem?_append_left (by simpa using hlt)]
    simp [hj]
end
end Go.Sx
/- The symbolic executor, part AP: iterators (a range over a function): what an iterator owes its caller, the statement by it, the call of yield. Generic over P. -/
set_option linter.unusedVariables false
set_option linter.unusedSimpArgs false
namespace Go.Sx
open Go.RowKit
theorem Fr.trans' {w0 w w' : World} {bs bs' : List Nat} (h : Fr w0 bs w) (h' : Fr w bs' w') (hs : ∀ k, k < w0.heap.size → k ∈ bs' → k ∈ bs) : Fr w0 bs w' :=
  ⟨h'.os.trans h.os, h'.tape.trans h.tape, h'.output.trans h.output, Nat.le_trans h.size h'.size, fun k hk hn => (h'.block k (Nat.lt_of_lt_of_le hk h.size) fun hm => hn (hs k hk hm)).trans (h.block k hk hn)⟩
theorem Fr.more {w0 w : World} {bs bs' : List Nat} (h : Fr w0 bs w) (hs : ∀ k ∈ bs, k ∈ bs') : Fr w0 bs' w := ⟨h.os, h.tape, h.output, h.size, fun k hk hn => h.block k hk fun hm => hn (hs k hm)⟩
theorem Fr.putObj {w0 w : World} {bs : List Nat} (h : Fr w0 bs w) {l : Nat} (hl : w0.heap.size ≤ l ∨ l ∈ bs) (o : Obj) : Fr w0 bs (w.putObj l o) :=
  ⟨h.os, h.tape, h.output, by rw [World.putObj_size]; exact h.size, fun k hk hn => by
    refine (World.putObj_heap_other ?_).trans (h.block k hk hn)
    rintro rfl
    rcases hl with hl | hl
    · omega
    · exact hn hl⟩
theorem wpIn_n {r : Option Nat} {n n' : Nat} {P : Program} {c : Code} {Q : Exit → Act → World → Prop} {a : Act} {w : World} (h : c.wpIn (fenR r) n P Q a w) : c.wpIn (fenR r) n' P Q a w := fun b k cs h1 h2 _ => h b k cs h1 h2 (room_fenR _ _)
/-! ### The call of yield -/
section
variable {P : Program} {E : Env} {K : Exit → St → Prop} {T : Tab}
/-- What a round leaves as it is. -/
def Blk.calm (T : List Nat) (N : Nat) : Blk → Prop
  | .say S _ => ∀ k ∈ T, ¬ S k
  | .ro _ n _ => n = 0
  | _ => True
end
end Go.Sx
/- The symbolic executor, part AQ: regions that draw, where an operation's answer is chosen as it is carried out (constants that no record could know before). Generic over P. -/
set_option linter.unusedVariables false
set_option linter.unusedSimpArgs false
namespace Go.Sx
open Go.RowKit
abbrev Cho := Value × (Nat → Prop)
structure Fam where
  tv : Cho → TV
  ms : Cho → List (Nat × Blk)
  nm : List Nat
  full : Bool
def nmM (nm : List Nat) : List (Nat × Blk) := nm.map fun y => (y, Blk.ro 0 0 fun _ => [])
theorem nmM_some {nm : List Nat} {x : Nat} : (mget (nmM nm) x).isSome = true → x ∈ nm := by
  induction nm with
  | nil => intro h; cases h
  | cons y r ih =>
    intro h
    simp only [nmM, List.map_cons, mget] at h
    cases hb : Nat.beq x y with
    | true => rw [Nat.eq_of_beq_eq_true hb]; simp
    | false => rw [hb] at h; exact List.mem_cons_of_mem _ (ih h)
section
variable {P : Program} {E : Env} {K : Exit → St → Prop} {T : Tab} {l : List Oper} {cls : List Nat} {X : List (Nat × Nat)} {base : St}
def StepsC (P : Program) (E : Env) (ops : Array Oper) (o : Oper) (C : St) (F : Fam) : Prop :=
  ∀ st, Le (dx o) (nmM F.nm) C st → (F.full = true → st.m = C.m) → ∀ ρ a w, Sat E ρ st a w → ∀ (Kc : Act → World → Prop) (Q : Exit → Act → World → Prop), (∀ i ρ' a' w', Sat E ρ' ⟨Sx.putT st.t o.dst (F.tv i), upm st.m (F.ms i)⟩ a' w' → Kc a' w') →
    if Region.wanted o (yielded ops a.tmps) = true then o.wp P a w Kc Q ∨ YieldW P o a w Kc else Kc (a.put o.dst undef) w
def Wany (X : List (Nat × Nat)) (k : Nat) (o : Oper) : Bool := (match o.op with
  | .alloc _ | .box .. | .buildSlice .. => true
  | _ => false) || X.any fun p => Nat.beq p.1 k
theorem Wn_any {X : List (Nat × Nat)} {k : Nat} {o : Oper} {x : Nat} (h : Wn X k o x = true) : Wany X k o = true := by
  unfold Wn at h
  unfold Wany
  rw [Bool.or_eq_true] at h ⊢
  rcases h with h | h
  · left
    revert h
    cases o.op <;> intro h <;> first
      | rfl
      | exact absurd h (by simp)
  · right
    have : ∀ Y : List (Nat × Nat), Wn.inX Y k x = true → (Y.any fun p => Nat.beq p.1 k) = true := by
      intro Y
      induction Y with
      | nil => intro h; cases h
      | cons p r ih =>
        intro h
        simp only [Wn.inX, Bool.or_eq_true, Bool.and_eq_true] at h
        simp only [List.any_cons, Bool.or_eq_true]
        rcases h with h | h
        · exact .inl h.1
        · exact .inr (ih h)
    exact this X h
theorem memU_mono {f g : Nat → Oper → Bool} (hfg : ∀ k o, f k o = true → g k o = true) {cls : List Nat} {i : Nat} : ∀ {k : Nat} {l : List Oper}, memU g cls i k l = false → memU f cls i k l = false
  | _, [], _ => rfl
  | k, o :: r, h => by
    simp only [memU, Bool.or_eq_false_iff, Bool.and_eq_false_iff] at h ⊢
    refine ⟨?_, memU_mono hfg h.2⟩
    rcases h.1 with h1 | h1
    · exact .inl h1
    · right
      cases hf : f k o with
      | false => rfl
      | true => rw [hfg _ _ hf] at h1; cases h1
def AllC (P : Program) (E : Env) (l : List Oper) (cls : List Nat) (X : List (Nat × Nat)) (base : St) (ch : Nat → Option Fam) (c : Nat → Cho) : List DR → Prop
  | [] => True
  | r :: pre => AllC P E l cls X base ch c pre ∧ l[pre.length]? = some r.o ∧ (∀ x, (mget r.ms x).isSome = true → Wn X pre.length r.o x = true) ∧ (match ch pre.length with
    | none => Steps P E l.toArray r.o (can l cls X base pre) r.tv r.ms
    | some F => r.tv = F.tv (c pre.length) ∧ r.ms = F.ms (c pre.length) ∧ StepsC P E l.toArray r.o (can l cls X base pre) F ∧ (∀ x ∈ F.nm, Wn X pre.length r.o x = true) ∧
        (F.full = true → memU (fun k o' => Wany X k o') cls pre.length 0 l = false))
theorem AllC.at {ch : Nat → Option Fam} {c : Nat → Cho} {recs post pre : List DR} {r : DR} (h : AllC P E l cls X base ch c recs) (e : recs = post ++ r :: pre) :
    l[pre.length]? = some r.o ∧ (∀ x, (mget r.ms x).isSome = true → Wn X pre.length r.o x = true) ∧ (match ch pre.length with
    | none => Steps P E l.toArray r.o (can l cls X base pre) r.tv r.ms
    | some F => r.tv = F.tv (c pre.length) ∧ r.ms = F.ms (c pre.length) ∧ StepsC P E l.toArray r.o (can l cls X base pre) F ∧ (∀ x ∈ F.nm, Wn X pre.length r.o x = true) ∧
        (F.full = true → memU (fun k o' => Wany X k o') cls pre.length 0 l = false)) := by
  induction post generalizing recs with
  | nil => subst e; exact h.2
  | cons a post ih => subst e; exact ih h.1 rfl
theorem atR_same {β : Type} {D : Nat → Bool} {g : DR → Option β} {b : β} : ∀ {u v : List DR}, u.length = v.length → (∀ j, j < u.length → D j = true → u[u.length - 1 - j]? = v[v.length - 1 - j]?) → atR D g u b = atR D g v b
  | [], [], _, _ => rfl
  | [], _ :: _, h, _ => by simp at h
  | _ :: _, [], h, _ => by simp at h
  | r :: u, r' :: v, hl, h => by
    have hl' : u.length = v.length := by simpa using hl
    have hi := atR_same (D := D) (g := g) (b := b) hl' fun j hj hd => by
      have := h j (by simp; omega) hd
      rw [show (r :: u).length - 1 - j = u.length - 1 - j + 1 by simp; omega, show (r' :: v).length - 1 - j = v.length - 1 - j + 1 by simp; omega] at this
      simpa using this
    simp only [atR, hi, hl']
    cases hd : D v.length with
    | false => rfl
    | true =>
      have := h u.length (by simp) (by rw [hl']; exact hd)
      simp [hl'] at this
      rw [this]
/-- What an operation leaves, in any order. -/
theorem stD_next {D D' : Nat → Bool} {recs post pre : List DR} {r : DR} (hp : Pred l cls) (hc : Clo l D) (e : recs = post ++ r :: pre)
    (hat : ∀ post r pre, recs = post ++ r :: pre → l[pre.length]? = some r.o ∧ ∀ x, (mget r.ms x).isSome = true → Wn X pre.length r.o x = true)
    (ha : Apart l cls X pre.length r.o) (hx : xOk l cls X X = true) (hDi : D pre.length = false) (hD' : ∀ k, D' k = (Nat.beq k pre.length || D k)) :
    (⟨Sx.putT (stD D base recs).t r.o.dst r.tv, upm (stD D base recs).m r.ms⟩ : St) = stD D' base recs := by
  have hro := (hat post r pre e).1
  have hwT : ∀ j, ∀ post r pre, recs = post ++ r :: pre → l[pre.length]? = some r.o ∧ ((gT j r).isSome = true → (fun _ o => dstIs o j : Nat → Oper → Bool) pre.length r.o = true) := by
    intro j post r pre e
    refine ⟨(hat _ _ _ e).1, fun hs => ?_⟩
    unfold gT at hs
    show dstIs r.o j = true
    cases hb : dstIs r.o j with
    | true => rfl
    | false => rw [hb] at hs; cases hs
  have hwM : ∀ x, ∀ post r pre, recs = post ++ r :: pre → l[pre.length]? = some r.o ∧ ((gM x r).isSome = true → (fun k o => Wn X k o x : Nat → Oper → Bool) pre.length r.o = true) := by
    intro x post r pre e
    refine ⟨(hat _ _ _ e).1, fun hs => (hat _ _ _ e).2 x ?_⟩
    unfold gM at hs
    cases hb : mget r.ms x with
    | some b => rfl
    | none => rw [hb] at hs; cases hs
  have later : ∀ {β : Type} {g : DR → Option β} {wg : Nat → Oper → Bool}, (∀ post r pre, recs = post ++ r :: pre → l[pre.length]? = some r.o ∧ ((g r).isSome = true → wg pre.length r.o = true)) → ((g r).isSome = true → memU wg cls pre.length 0 l = false) →
      ∀ p1 r' p2, post = p1 ++ r' :: p2 → D (p2 ++ r :: pre).length = true → (g r).isSome = true → g r' = none := by
    intro β g wg hw hm p1 r' p2 e2 hd hsome
    have e3 : recs = p1 ++ r' :: (p2 ++ r :: pre) := by rw [e, e2]; simp
    obtain ⟨hoj, hwg⟩ := hw _ _ _ e3
    have := memU_false (k0 := 0) (hm hsome) hoj (by rw [Nat.zero_add]; exact inU_of hp hc hro hoj hDi hd (ha.lt _ (by simp; omega)))
    rw [Nat.zero_add] at this
    cases hg : g r' with
    | none => rfl
    | some v => rw [hg] at hwg; rw [hwg rfl] at this; cases this
  unfold stD
  congr 1
  · funext j
    have := atR_insert (g := gT j) (b := base.t j) (r := r) (pre := pre) (post := post) hDi hD' (later (wg := fun _ o => dstIs o j) (hwT j) fun hs => ?_)
    · simp only [e]
      rw [this]
      unfold gT Sx.putT dstIs
      cases hdst : r.o.dst with
      | none => rfl
      | some d =>
        simp only [up]
        have : Nat.beq j d = Nat.beq d j := by
          cases h1 : Nat.beq j d with
          | true => rw [Nat.eq_of_beq_eq_true h1]; simp
          | false => cases h2 : Nat.beq d j with
            | false => rfl
            | true => rw [Nat.eq_of_beq_eq_true h2] at h1; simp at h1
        rw [this]
        cases Nat.beq d j <;> rfl
    · have := (hwT j post r pre e).2 hs
      exact ha.dst j (dstIs_eq this)
  · funext x
    have := atR_insert (g := gM x) (b := base.m x) (r := r) (pre := pre) (post := post) hDi hD' (later (wg := fun k o => Wn X k o x) (hwM x) fun hs => Wn_apart ha hx ((hwM x post r pre e).2 hs))
    simp only [e]
    rw [this]
    unfold gM upm
    cases mget r.ms x <;> rfl
theorem stD_le {D : Nat → Bool} {recs post pre : List DR} {r : DR} (hp : Pred l cls) (hc : Clo l D) (e : recs = post ++ r :: pre)
    (hat : ∀ post r pre, recs = post ++ r :: pre → l[pre.length]? = some r.o ∧ ∀ x, (mget r.ms x).isSome = true → Wn X pre.length r.o x = true)
    (ha : Apart l cls X pre.length r.o) (hx : xOk l cls X X = true) (hDi : D pre.length = false) (hready : ∀ e ∈ r.o.after.toList, Region.binds .any e = true → D e.on = true) {ms : List (Nat × Blk)} (hms : ∀ x, (mget ms x).isSome = true → Wn X pre.length r.o x = true) :
    Le (dx r.o) ms (can l cls X base pre) (stD D base recs) ∧ (memU (fun k o' => Wany X k o') cls pre.length 0 l = false → (stD D base recs).m = (can l cls X base pre).m) := by
  have hwT : ∀ j, ∀ post r pre, recs = post ++ r :: pre → l[pre.length]? = some r.o ∧ ((gT j r).isSome = true → (fun _ o => dstIs o j : Nat → Oper → Bool) pre.length r.o = true) := by
    intro j post r pre e
    refine ⟨(hat _ _ _ e).1, fun hs => ?_⟩
    unfold gT at hs
    show dstIs r.o j = true
    cases hb : dstIs r.o j with
    | true => rfl
    | false => rw [hb] at hs; cases hs
  have hwM : ∀ x, ∀ post r pre, recs = post ++ r :: pre → l[pre.length]? = some r.o ∧ ((gM x r).isSome = true → (fun k o => Wn X k o x : Nat → Oper → Bool) pre.length r.o = true) := by
    intro x post r pre e
    refine ⟨(hat _ _ _ e).1, fun hs => (hat _ _ _ e).2 x ?_⟩
    unfold gM at hs
    cases hb : mget r.ms x with
    | some b => rfl
    | none => rw [hb] at hs; cases hs
  refine ⟨⟨fun j => ?_, fun y => ?_, ?_, fun y hy => ?_⟩, fun hm => ?_⟩
  · simp only [can, stD]
    cases hm : memU (fun _ o => dstIs o j) cls pre.length 0 l with
    | true => exact .inl rfl
    | false => exact .inr (can_agree hp hc e (hwT j) ha hDi hready hm)
  · simp only [can, stD]
    cases hm : memU (fun k o => Wn X k o y) cls pre.length 0 l with
    | true => exact .inl rfl
    | false => exact .inr (can_agree hp hc e (hwM y) ha hDi hready hm)
  · simp only [can, stD, ha.dx]
    exact can_agree hp hc e (hwM _) ha hDi hready ha.dx
  · have hm := Wn_apart ha hx (hms y hy)
    simp only [can, stD, hm]
    exact can_agree hp hc e (hwM y) ha hDi hready hm
  · funext y
    have hm' := memU_mono (f := fun k o' => Wn X k o' y) (fun k o h => Wn_any h) hm
    simp only [can, stD, hm']
    exact can_agree hp hc e (hwM y) ha hDi hready hm'
def updC (c : Nat → Cho) (i : Nat) (u : Cho) : Nat → Cho := fun k => if k = i then u else c k
theorem draw_anyC (hnd : E.rnd.isSome = true → l.all nodef = true) (hp : Pred l cls) (hap : apartOk l cls X 0 l = true) (hx : xOk l cls X X = true) {ch : Nat → Option Fam} {R : (Nat → Cho) → List DR} (hall : ∀ c, AllC P E l cls X base ch c (R c)) (hlen : ∀ c, (R c).length = l.length)
    (hdep : ∀ c c' j, j < l.length → (∀ k, (tb (cls.getD j 0) k = true ∨ (k = j ∧ (ch j).isSome = true)) → c k = c' k) → (R c)[l.length - 1 - j]? = (R c')[l.length - 1 - j]?) (hk : ∀ c, K .normal (stD (fun _ => true) base (R c))) :
    ∀ (fuel : Nat) (listed : Array Bool) (a : Act) (w : World), listed.size = l.length → Clo l (lst listed) → cnt (lst listed) l.length ≤ fuel → (∃ c ρ, Sat E ρ (stD (lst listed) base (R c)) a w) → wpAnyIn (fenR E.rnd) 6 P .any l.toArray (QK E K) fuel listed a w := by
  have hAt : ∀ {i : Nat} {o : Oper}, l[i]? = some o → Apart l cls X i o := fun {i o} ho => by
    have := apartOk_spec hap ho
    rw [Nat.zero_add] at this
    exact this
  have done : ∀ (listed : Array Bool) (a : Act) (w : World), (∀ k, k < l.length → lst listed k = true) → (∃ c ρ, Sat E ρ (stD (lst listed) base (R c)) a w) → QK E K .normal a w := by
    rintro listed a w hl ⟨c, ρ, hs⟩
    have : stD (lst listed) base (R c) = stD (fun _ => true) base (R c) := by
      have h : ∀ {β : Type} (g : DR → Option β) (b : β), atR (lst listed) g (R c) b = atR (fun _ => true) g (R c) b := fun g b =>
        atR_agree fun post r pre e _ => hl _ (by rw [← hlen c, e]; simp; omega)
      unfold stD
      congr 1
      · funext j; exact h _ _
      · funext j; exact h _ _
    rw [this] at hs
    exact ⟨ρ, _, hs, hk c⟩
  intro fuel
  induction fuel with
  | zero =>
    intro listed a w hsz hc hcnt hs
    have hl := cnt_zero (Nat.le_zero.1 hcnt)
    refine ⟨?_, done listed a w hl hs⟩
    cases hr : Region.ready .any l.toArray listed with
    | nil => rfl
    | cons i rs =>
      have := (mem_ready (l := l) (listed := listed) (i := i)).1 (by rw [hr]; exact List.mem_cons_self)
      have h1 := hl i this.1
      have h2 := this.2.1
      rw [lst, Array.getD_eq_getD_getElem?] at h1
      rw [Array.getD_eq_getD_getElem?] at h2
      cases hx : listed[i]? with
      | none => rw [hx] at h1; cases h1
      | some b => rw [hx] at h1 h2; simp at h1 h2; rw [h1] at h2; cases h2
  | succ fuel ih =>
    intro listed a w hsz hc hcnt hs
    refine ⟨fun hr => done listed a w ?_ hs, ?_⟩
    · intro k
      induction k using Nat.strongRecOn with
      | _ k ihk =>
        intro hk
        cases hd : lst listed k with
        | true => rfl
        | false =>
          exfalso
          obtain ⟨o, ho⟩ : ∃ o, l[k]? = some o := ⟨l[k], List.getElem?_eq_getElem hk⟩
          have : k ∈ Region.ready .any l.toArray listed := by
            refine mem_ready.2 ⟨hk, ?_, o, ho, fun e he hb => ihk _ ((hAt ho).on e he hb) (Nat.lt_trans ((hAt ho).on e he hb) hk)⟩
            rw [lst, Array.getD_eq_getD_getElem?, Array.getElem?_eq_getElem (by rw [hsz]; exact hk)] at hd
            rw [Array.getD_eq_getD_getElem?, Array.getElem?_eq_getElem (by rw [hsz]; exact hk)]
            exact hd
          rw [hr] at this
          cases this
    · intro i hi
      obtain ⟨c, ρ, hs⟩ := hs
      obtain ⟨hi1, hi2, o, ho, hready⟩ := mem_ready.1 hi
      have hDi : lst listed i = false := by
        rw [lst, Array.getD_eq_getD_getElem?, Array.getElem?_eq_getElem (by rw [hsz]; exact hi1)]
        rw [Array.getD_eq_getD_getElem?, Array.getElem?_eq_getElem (by rw [hsz]; exact hi1)] at hi2
        exact hi2
      have hD' : ∀ k, lst (listed.setIfInBounds i true) k = (Nat.beq k i || lst listed k) := fun k => lst_set (by rw [hsz]; exact hi1)
      have hcnt' : cnt (lst (listed.setIfInBounds i true)) l.length ≤ fuel := by
        have := cnt_set (D := lst listed) (D' := lst (listed.setIfInBounds i true)) hi1 hDi (by rw [hD']; simp) fun k hk => by
          rw [hD']
          cases hb : Nat.beq k i with
          | false => rfl
          | true => exact absurd (Nat.eq_of_beq_eq_true hb) hk
        omega
      have ha := hAt ho
      have hc' : Clo l (lst (listed.setIfInBounds i true)) := by
        intro k ok hok hk e he hb
        rw [hD'] at hk ⊢
        rw [Bool.or_eq_true] at hk ⊢
        rcases hk with hk | hk
        · have := Nat.eq_of_beq_eq_true hk
          subst this
          rw [ho] at hok
          injection hok with hok
          subst hok
          exact .inr (hready e he hb)
        · exact .inr (hc k ok hok hk e he hb)
      have hat : ∀ c, ∀ post r pre, R c = post ++ r :: pre → l[pre.length]? = some r.o ∧ ∀ x, (mget r.ms x).isSome = true → Wn X pre.length r.o x = true := fun c post r pre e => ⟨((hall c).at e).1, ((hall c).at e).2.1⟩
      obtain ⟨post, r, pre, e, hpre⟩ := splitAt (R c) i (by rw [hlen]; exact hi1)
      obtain ⟨hro, hnames, hstep⟩ := (hall c).at e
      rw [hpre] at hro hnames hstep
      have hor : r.o = o := by rw [hro] at ho; injection ho
      have hno : E.rnd.isSome = true → nodef o = true := fun hr => List.all_eq_true.1 (hnd hr) o (List.mem_of_getElem? ho)
      have go : (if Region.wanted o (yielded l.toArray a.tmps) = true then o.wp P a w (wpAnyIn (fenR E.rnd) 6 P .any l.toArray (QK E K) fuel (listed.setIfInBounds i true)) (QK E K) ∨ YieldW P o a w (wpAnyIn (fenR E.rnd) 6 P .any l.toArray (QK E K) fuel (listed.setIfInBounds i true)) else wpAnyIn (fenR E.rnd) 6 P .any l.toArray (QK E K) fuel (listed.setIfInBounds i true) (a.put o.dst undef) w) := by
        cases hch : ch i with
        | none =>
          rw [hch] at hstep
          have hl := (stD_le (base := base) (ms := r.ms) hp hc e (hat c) (by rw [hpre, hor]; exact ha) hx (by rw [hpre]; exact hDi) (by rw [hor]; exact hready) (by rw [hpre]; exact hnames)).1
          have := hstep _ hl ρ a w hs _ (QK E K) fun ρ' a' w' hs' => by
            rw [stD_next (D' := lst (listed.setIfInBounds i true)) hp hc e (hat c) (by rw [hpre, hor]; exact ha) hx (by rw [hpre]; exact hDi) (by rw [hpre]; exact hD')] at hs'
            exact ih (listed.setIfInBounds i true) a' w' (by simp [hsz]) hc' hcnt' ⟨c, ρ', hs'⟩
          rw [← hor]
          exact this
        | some F =>
          rw [hch] at hstep
          obtain ⟨h1, h2, h3, h4, h5⟩ := hstep
          have hl := stD_le (base := base) (ms := nmM F.nm) hp hc e (hat c) (by rw [hpre, hor]; exact ha) hx (by rw [hpre]; exact hDi) (by rw [hor]; exact hready) (by rw [hpre]; exact fun x hx => h4 x (nmM_some hx))
          have := h3 _ hl.1 (fun hf => hl.2 (by rw [hpre]; exact h5 hf)) ρ a w hs _ (QK E K) fun u ρ' a' w' hs' => by
            have hsame : stD (lst listed) base (R c) = stD (lst listed) base (R (updC c i u)) := by
              have h : ∀ {β : Type} (g : DR → Option β) (b : β), atR (lst listed) g (R c) b = atR (lst listed) g (R (updC c i u)) b := fun g b =>
                atR_same (by rw [hlen, hlen]) fun j hj hDj => by
                  rw [hlen] at hj
                  obtain ⟨oj, hoj⟩ : ∃ o, l[j]? = some o := ⟨l[j], List.getElem?_eq_getElem hj⟩
                  rw [hlen, hlen]
                  refine hdep _ _ j hj fun k hk => ?_
                  have : k ≠ i := by
                    rintro rfl
                    rcases hk with hk | ⟨rfl, _⟩
                    · rw [tb_eq] at hk
                      have := hp _ j oj hoj (fun e he hbd => hc j oj hoj hDj e he hbd) hc k hk
                      rw [hDi] at this; cases this
                    · rw [hDi] at hDj; cases hDj
                  simp [updC, this]
              unfold stD
              congr 1
              · funext j; exact h _ _
              · funext j; exact h _ _
            obtain ⟨post', r', pre', e', hpre'⟩ := splitAt (R (updC c i u)) i (by rw [hlen]; exact hi1)
            obtain ⟨hro', hnames', hstep'⟩ := (hall (updC c i u)).at e'
            rw [hpre'] at hro' hnames' hstep'
            have hor' : r'.o = o := by rw [hro'] at ho; injection ho
            rw [hch] at hstep'
            have e1 : F.tv u = r'.tv := by rw [hstep'.1]; simp [updC]
            have e2 : F.ms u = r'.ms := by rw [hstep'.2.1]; simp [updC]
            rw [hsame, e1, e2, hor, ← hor'] at hs'
            rw [stD_next (D' := lst (listed.setIfInBounds i true)) hp hc e' (hat _) (by rw [hpre', hor']; exact ha) hx (by rw [hpre']; exact hDi) (by rw [hpre']; exact hD')] at hs'
            exact ih (listed.setIfInBounds i true) a' w' (by simp [hsz]) hc' hcnt' ⟨_, ρ', hs'⟩
          rw [← hor]
          exact this
      unfold wpOpIn
      rw [show l.toArray[i]? = some o by rw [List.getElem?_toArray]; exact ho]
      simp only
      split
      · rename_i hw
        rw [if_pos hw] at go
        rcases go with this | this
        · exact op_in hno this
        · exact yield_in hno this
      · rename_i hw
        rw [if_neg hw] at go
        exact ⟨fun _ _ => trivial, go⟩
/-! ### The chain of records, for one choice -/
def GC (P : Program) (E : Env) (K : Exit → St → Prop) (l : List Oper) (cls : List Nat) (X : List (Nat × Nat)) (base : St) (ch : Nat → Option Fam) (c : Nat → Cho) (recs : List DR) (rest : List Oper) (t : Nat → TV) (m : Mem) (R : List DR) : Prop :=
  AllC P E l cls X base ch c recs → l.drop recs.length = rest → stD (fun _ => true) base recs = ⟨t, m⟩ → AllC P E l cls X base ch c R ∧ R.length = l.length ∧ K .normal (stD (fun _ => true) base R)
theorem stD_all {recs : List DR} {r : DR} {t : Nat → TV} {m : Mem} (he : stD (fun _ => true) base recs = ⟨t, m⟩) : stD (fun _ => true) base (r :: recs) = ⟨Sx.putT t r.o.dst r.tv, upm m r.ms⟩ := by
  have h1 := congrArg St.t he
  have h2 := congrArg St.m he
  unfold stD
  congr 1
  · funext j
    have := congrFun h1 j
    simp only [stD] at this
    simp only [atR, gT, this]
    unfold Sx.putT dstIs
    cases hdst : r.o.dst with
    | none => rfl
    | some d =>
      simp only [up]
      have : Nat.beq j d = Nat.beq d j := by
        cases h1 : Nat.beq j d with
        | true => rw [Nat.eq_of_beq_eq_true h1]; simp
        | false => cases h2 : Nat.beq d j with
          | false => rfl
          | true => rw [Nat.eq_of_beq_eq_true h2] at h1; simp at h1
      rw [this]
      cases Nat.beq d j <;> rfl
  · funext x
    have := congrFun h2 x
    simp only [stD] at this
    simp only [atR, gM, this]
    unfold upm
    cases mget r.ms x <;> rfl
variable {ch : Nat → Option Fam} {c : Nat → Cho} {recs R : List DR} {o : Oper} {rest : List Oper} {t : Nat → TV} {m : Mem}
theorem GC.nil (h : K .normal ⟨t, m⟩) : GC P E K l cls X base ch c recs [] t m recs := by
  intro hall hd he
  refine ⟨hall, ?_, by rw [he]; exact h⟩
  have hle : recs.length ≤ l.length := by
    cases recs with
    | nil => simp
    | cons r pre => have := (List.getElem?_eq_some_iff.1 hall.2.1).1; simp; omega
  rw [List.drop_eq_nil_iff] at hd
  omega
theorem GC.step (i : Nat) (hi : recs.length = i) (hch : ch i = none) {tv : TV} {ms : List (Nat × Blk)} (h : Steps P E l.toArray o (canF l cls X base i recs) tv ms) (hn : Wok X i o ms = true)
    (k : GC P E K l cls X base ch c (⟨o, tv, ms⟩ :: recs) rest (Sx.putT t o.dst tv) (upm m ms) R) : GC P E K l cls X base ch c recs (o :: rest) t m R := by
  intro hall hd he
  have ho : l[recs.length]? = some o := by
    have := congrArg (fun l => l[0]?) hd
    simpa using this
  rw [canF_eq hi] at h
  refine k ⟨hall, ho, fun x hx => by rw [hi]; exact Wok_spec hn hx, ?_⟩ (by rw [List.length_cons, ← List.drop_drop, hd]; rfl) (stD_all he)
  rw [hi, hch]
  exact h
theorem GC.choice (i : Nat) (hi : recs.length = i) (F : Fam) (hch : ch i = some F) (h : StepsC P E l.toArray o (canF l cls X base i recs) F) (hn : F.nm.all (fun x => Wn X i o x) = true) (hms : ∀ u x, (mget (F.ms u) x).isSome = true → x ∈ F.nm)
    (hf : (!F.full || !memU (fun k o' => Wany X k o') cls i 0 l) = true)
    (k : GC P E K l cls X base ch c (⟨o, F.tv (c i), F.ms (c i)⟩ :: recs) rest (Sx.putT t o.dst (F.tv (c i))) (upm m (F.ms (c i))) R) : GC P E K l cls X base ch c recs (o :: rest) t m R := by
  intro hall hd he
  have ho : l[recs.length]? = some o := by
    have := congrArg (fun l => l[0]?) hd
    simpa using this
  rw [canF_eq hi] at h
  have hn' : ∀ x ∈ F.nm, Wn X i o x = true := fun x hx => List.all_eq_true.1 hn x hx
  refine k ⟨hall, ho, fun x hx => by rw [hi]; exact hn' x (hms _ x hx), ?_⟩ (by rw [List.length_cons, ← List.drop_drop, hd]; rfl) (stD_all he)
  rw [hi, hch]
  exact ⟨rfl, rfl, h, hn', fun hf' => by rw [hf'] at hf; simpa using hf⟩
def freeC (ch : Nat → Option Fam) : Nat → Nat → Bool
  | _, 0 => true
  | i, n + 1 => (ch i).isNone && freeC ch (i + 1) n
theorem GC.run (hT : Tab.fine P T) {rest' : List Oper} {i : Nat} {recs' : List DR} {t' : Nat → TV} {m' : Mem} {obs obs' : List Prop} (hi : recs.length = i) (hfr : ∀ j, i ≤ j → j < recs'.length → ch j = none) (h : runD T E.N l cls X base rest i recs t m obs = .mk recs' rest' t' m' obs') (ho : AllP obs')
    (k : GC P E K l cls X base ch c recs' rest' t' m' R) : GC P E K l cls X base ch c recs rest t m R ∧ AllP obs ∧ recs.length ≤ recs'.length := by
  induction rest generalizing recs t m obs i with
  | nil => injection h with h1 h2 h3 h4 h5; subst h1; subst h2; subst h3; subst h4; subst h5; exact ⟨k, ho, Nat.le_refl _⟩
  | cons o r ih =>
    rw [runD] at h
    split at h
    · injection h with h1 h2 h3 h4 h5; subst h1; subst h2; subst h3; subst h4; subst h5; exact ⟨k, ho, Nat.le_refl _⟩
    · rename_i tv m1 ob he
      rw [forceMs_eq] at h
      split at h
      · injection h with h1 h2 h3 h4 h5; subst h1; subst h2; subst h3; subst h4; subst h5; exact ⟨k, ho, Nat.le_refl _⟩
      · rename_i hw
        simp only [forceO_eq, app_eq, forceU_eq, upmE_eq] at h
        have key : (GC P E K l cls X base ch c (⟨o, tv, msS (canF l cls X base i recs) o m1⟩ :: recs) r (Sx.putT t o.dst tv) (upm m (msS (canF l cls X base i recs) o m1)) R ∧ AllP (ob ++ obs) ∧ recs.length + 1 ≤ recs'.length) := by
          have hfr' : ∀ j, i + 1 ≤ j → j < recs'.length → ch j = none := fun j h1 h2 => hfr j (by omega) h2
          split at h
          · rename_i d hd; rw [hd]; have := ih (by simp [hi]) hfr' h; exact ⟨this.1, this.2.1, by simpa using this.2.2⟩
          · rename_i hd; rw [hd]; have := ih (by simp [hi]) hfr' h; exact ⟨this.1, this.2.1, by simpa using this.2.2⟩
        obtain ⟨k1, k2, k3⟩ := key
        rw [AllP_append] at k2
        exact ⟨GC.step i hi (hfr i (Nat.le_refl _) (by omega)) (Steps.op hT he k2.1) hw k1, k2.2, by omega⟩
theorem freeC_spec {i n : Nat} (h : freeC ch i n = true) : ∀ j, i ≤ j → j < i + n → ch j = none := by
  induction n generalizing i with
  | zero => intro j h1 h2; omega
  | succ n ih =>
    simp only [freeC, Bool.and_eq_true] at h
    intro j h1 h2
    by_cases e : j = i
    · subst e
      cases hc : ch j with
      | none => rfl
      | some F => rw [hc] at h; cases h.1
    · exact ih h.2 j (by omega) (by omega)
theorem GC.more (hT : Tab.fine P T) {rest' : List Oper} {recs' : List DR} {t' : Nat → TV} {m' : Mem} {obs' : List Prop} (i : Nat) (hi : recs.length = i) (h : runD T E.N l cls X base rest i recs t m [] = .mk recs' rest' t' m' obs') (hfr : freeC ch i (recs'.length - i) = true) (ho : AllP obs')
    (k : GC P E K l cls X base ch c recs' rest' t' m' R) : GC P E K l cls X base ch c recs rest t m R :=
  (GC.run hT hi (fun j h1 h2 => freeC_spec hfr j h1 (by omega)) h ho k).1
theorem G.drawC (hm : P.follows .mixedOrders = true) {id : Nat} {R : (Nat → Cho) → List DR} (hcls : clGo [] l = cls) (hap : apartOk l cls X 0 l = true) (hx : xOk l cls X X = true) {t : Nat → TV} {m : Mem} (h : ∀ c, GC P E K l cls X ⟨t, m⟩ ch c [] l t m (R c))
    (hdep : ∀ c c' j, j < l.length → (∀ k, (tb (cls.getD j 0) k = true ∨ (k = j ∧ (ch j).isSome = true)) → c k = c' k) → (R c)[l.length - 1 - j]? = (R c')[l.length - 1 - j]?) : G P E K (.region id l.toArray true) ⟨t, m⟩ := by
  have h' := fun c => h c trivial rfl rfl
  intro hn ρ a w hs
  have hp : Pred l cls := by rw [← hcls]; exact clGo_spec l
  refine wpIn_region_any hm ?_
  have hw : Below w.heap.size w { w with drawn := w.drawn + 1 } := ⟨rfl, rfl, rfl, Nat.le_refl _, fun _ _ => rfl⟩
  have hl : ∀ k, lst (Array.replicate l.toArray.size false) k = false := by
    intro k
    simp only [lst, Array.getD_eq_getD_getElem?, List.size_toArray, Array.getElem?_replicate]
    split <;> rfl
  refine draw_anyC (fun hr => by have := hn hr; simpa [nd] using this) hp hap hx (fun c => (h' c).1) (fun c => (h' c).2.1) hdep (fun c => (h' c).2.2) l.toArray.size _ a _ (by simp) (fun i o _ hi => by rw [hl] at hi; cases hi) ?_ ⟨fun _ => (undef, fun _ => False), ρ, ?_⟩
  · have : ∀ (D : Nat → Bool) n, cnt D n ≤ n := by
      intro D n
      induction n with
      | zero => exact Nat.le_refl _
      | succ n ih => simp only [cnt]; split <;> omega
    simpa using this _ l.length
  · have : ∀ rs, stD (lst (Array.replicate l.toArray.size false)) ⟨t, m⟩ rs = ⟨t, m⟩ := by
      intro rs
      have h : ∀ {β : Type} (g : DR → Option β) (b : β) (rs : List DR), atR (lst (Array.replicate l.toArray.size false)) g rs b = b := by
        intro β g b rs
        induction rs with
        | nil => rfl
        | cons r rs ih => simp only [atR, hl, ih]
      unfold stD
      congr 1
      · funext j; exact h _ _ _
      · funext j; exact h _ _ _
    rw [this]
    exact hs.below hw
/-! ### Choices: calls that answer anything, calls of yield -/
end
end Go.Sx
/- The symbolic executor, part AR: appending one element in regions that draw: the answer's capacity, or the answer itself, is chosen as it is carried out. Generic over P. -/
set_option linter.unusedVariables false
set_option linter.unusedSimpArgs false
namespace Go.Sx
open Go.RowKit
section
variable {P : Program} {E : Env} {K : Exit → St → Prop} {T : Tab}
/-! ### As choices -/
end
end Go.Sx
/- The symbolic executor, part AS: rows of their own, room and all, as answers; appending onto an empty constant in draws. Generic over P. -/
set_option linter.unusedVariables false
set_option linter.unusedSimpArgs false
namespace Go.Sx
open Go.RowKit
section
variable {P : Program} {E : Env} {K : Exit → St → Prop} {T : Tab}
end
end Go.Sx
/- The symbolic executor, part AT: a row of ours gets another name, wherever it is spoken of. Generic over P. -/
set_option linter.unusedVariables false
set_option linter.unusedSimpArgs false
namespace Go.Sx
open Go.RowKit
section
variable {P : Program} {E : Env} {K : Exit → St → Prop} {T : Tab}
theorem GO.runN (hT : Tab.fine P T) (n : Nat) {ops : Array Oper} {rest : List Oper} {obs obs' : List Prop} {t t' : Nat → TV} {m m' : Mem} (h : runOps T E.N ops (rest.take n) t m obs = .mk t' m' [] obs') (ho : AllP obs') (k : GO P E ops K (rest.drop n) ⟨t', m'⟩) : GO P E ops K rest ⟨t, m⟩ := by
  induction n generalizing rest t m obs with
  | zero => rw [List.take_zero] at h; injection h with h1 h2 h3 h4; subst h1; subst h2; simpa using k
  | succ n ih =>
    cases rest with
    | nil => rw [List.take_nil] at h; injection h with h1 h2 h3 h4; subst h1; subst h2; simpa using k
    | cons o r =>
      rw [List.take_succ_cons, runOps_cons] at h
      split at h
      · injection h with h1 h2 h3 h4; cases h3
      · rename_i tv m1 ob he
        exact GO.step hT he (AllP_append.1 (runOps_ob h ho)).1 (ih h (by simpa using k))
/-- The first n operations. -/
theorem GO.firstN (hT : Tab.fine P T) (n : Nat) {ops : Array Oper} {rest : List Oper} {obs' : List Prop} {t t' : Nat → TV} {m m' : Mem} (h : runOps T E.N ops (rest.take n) t m [] = .mk t' m' [] obs') (ho : AllP obs') (k : GO P E ops K (rest.drop n) ⟨t', m'⟩) : GO P E ops K rest ⟨t, m⟩ := GO.runN hT n h ho k
/-- What lay there lies as it lay. -/
def asOf (w0 w : World) : Prop := w0.heap.size ≤ w.heap.size ∧ ∀ k, k < w0.heap.size → w.heap[k]? = w0.heap[k]?
theorem asOf.refl (w : World) : asOf w w := ⟨Nat.le_refl _, fun _ _ => rfl⟩
theorem steady_asOf (w0 : World) : Steady (· < w0.heap.size) (asOf w0) := fun w1 w2 h1 h2 h => ⟨Nat.le_trans h.1 h2, fun k hk => (h1 k hk).trans (h.2 k hk)⟩
theorem heap_asOf {w0 w : World} {b : Nat} {o : Obj} (h : w0.heap[b]? = some o) (ha : Sx.asOf w0 w) : w.heap[b]? = some o := (ha.2 b (lt_of_heap h)).trans h
theorem sb_lt {w : World} {A : Option Addr} {n c sz : Nat} {el : Nat → List Value} (h : RdRow w A n sz el) : ∀ k, sb (.slice A n c) k → k < w.heap.size := by
  rintro k ⟨h0, a, rfl, rfl⟩
  obtain ⟨b, o, e, h1, _⟩ := h h0
  cases e
  exact h1
/-- The entry of a function that turns nothing that was there. -/
theorem enterOld {f : FuncId} {fn : Func} {c : Code} {args : Array Value} {w : World} {R : Ending → World → Prop} (avs : List AV) (hf : P.funcs[f]? = some fn) (hb : fn.body = some c) (N : Nat) (hN : fn.ntmps = N) (hargs : args = (avs.map (AV.conc fun _ => (0, 0))).toArray)
    (hl : Nat.ble avs.length N = true) (hc : allCn avs) (h : G P ⟨w, [], N, none, []⟩ (retK P ⟨w, [], N, none, []⟩ fn R) c ⟨argsT avs, lkM [(1, .say (· < w.heap.size) (asOf w))]⟩) : Calls P f args w R :=
  enterSay [] avs [(1, .say (· < w.heap.size) (asOf w))] hf hb N hN hargs hl hc ⟨⟨asOf.refl w, fun k hk => hk, steady_asOf w⟩, trivial, trivial⟩ h
theorem retK.plain (hT : Tab.fine P T) {w : World} {N : Nat} {fn : Func} {st : St} {v u : Value} (h : resP T st fn.results.toList = .mk u) (e : u = v) : retK P ⟨w, [], N, none, []⟩ fn (fun e w' => e = .returned v ∧ Below w.heap.size w w') .ret st :=
  endK_ret hT (endK.ret h e)
/-- A load through a constant pointer of which it is told what lies there. -/
def loadAV (d : TyD) (cs : List Value) : AV := match d.kind.isAgg with
  | true => .agg (cs.map .k)
  | false => .c (.k (cs.headD undef))
theorem loadK_run (hT : Tab.fine P T) {t b : Nat} {ty : TypeId} {cs : List Value} {d : TyD} (ht : T t = some d) (hl : cs.length = d.size) {w : World} (hw : w.heap[b]? = some (.cells cs.toArray ty (0, 0))) (ρ : Val) : (Instr.loadAt t (.pointer (some ⟨b, 0, none⟩))).run P w = .ok ((loadAV d cs).conc ρ) w := by
  have := run_load_list (P := P) (hT.ok t d ht) (w := w) (b := b) (o := 0) (cs := cs) hl fun j v hj => by
    rw [Nat.zero_add, cell_of_heap hw, List.getElem?_toArray]; exact hj
  rw [this]
  unfold loadAV
  cases d.kind.isAgg with
  | true => simp only [cond_true, AV.conc, map_conc_k]
  | false => rfl
theorem loadAV_ok (d : TyD) (cs : List Value) (ρ : Val) (m : Mem) : (loadAV d cs).ok ρ m := by
  unfold loadAV
  cases d.kind.isAgg with
  | true => intro a ha; obtain ⟨v, _, rfl⟩ := List.mem_map.1 ha; trivial
  | false => trivial
theorem Steps.loadK (hT : Tab.fine P T) {ops : Array Oper} {o : Oper} {C : St} {t b : Nat} {y : Operand} {S : Nat → Prop} {R : World → Prop} {d : TyD} {ty : TypeId} (X : Nat) (cs : List Value) (hg : o.guard = none) (hop : o.op = .load t y) (hd : dstOk E.N o.dst = true) (hy : evT C.t y = .v (.c (.k (.pointer (some ⟨b, 0, none⟩)))))
    (hX : C.m X = some (.say S R)) (hR : ∀ w, R w → w.heap[b]? = some (.cells cs.toArray ty (0, 0))) (ht : T t = some d) (hl : cs.length = d.size) : Steps P E ops o C (.v (loadAV d cs)) [] := by
  intro st hle ρ a w hs Kc Q hk
  have hs' := hs.weakT hle.t
  have hX' : st.m X = some (.say S R) := by
    rcases hle.m X with h | h
    · rw [hX] at h; cases h
    · exact h.trans hX
  have hw := hR w (hs.mem.ok X _ hX').1
  have e1 : a.eval y = .pointer (some ⟨b, 0, none⟩) := by have := hs'.eval y; rw [show (St.mk C.t st.m).ev y = _ from hy] at this; exact this.2
  rw [if_pos (by simp [Region.wanted, hg])]
  refine .inl ?_
  refine Snd.go hs (dstOk_lt hd) (tv := .v (loadAV d cs)) (Snd.here hs.mem (v := (loadAV d cs).conc ρ) ?_ ⟨loadAV_ok _ _ _ _, rfl⟩) fun ρ' a' w' hs'' => hk ρ' a' w' hs''
  simp only [execOp, hop, Sem.run_bind, e1, loadK_run hT ht hl hw ρ, Result.andThen_ok, Sem.run_pure]
theorem GD.stepF {l : List Oper} {cls : List Nat} {X : List (Nat × Nat)} {base : St} {recs : List DR} {o : Oper} {rest : List Oper} {t : Nat → TV} {m : Mem} {tv : TV} {ms : List (Nat × Blk)} (i : Nat) (hi : recs.length = i) (h : Steps P E l.toArray o (canF l cls X base i recs) tv ms) (hn : Wok X i o ms = true)
    (k : GD P E K l cls X base (⟨o, tv, ms⟩ :: recs) rest (Sx.putT t o.dst tv) (upm m ms)) : GD P E K l cls X base recs (o :: rest) t m := by
  rw [canF_eq hi] at h
  exact GD.step h (by rw [hi]; exact hn) k
def allCalm (T : List Nat) (xJ : Nat) : List (Nat × Blk) → Prop
  | [] => True
  | p :: r => (p.1 = xJ ∨ (p.1 < 1000 ∧ Blk.calm T 0 p.2)) ∧ allCalm T xJ r
theorem calm_of {T : List Nat} {xJ : Nat} {ml : List (Nat × Blk)} (h : allCalm T xJ ml) : ∀ y b, y ≠ xJ → lkM ml y = some b → y < 1000 ∧ Blk.calm T 0 b := by
  induction ml with
  | nil => intro y b _ hb; cases hb
  | cons p r ih =>
    intro y b hy hb
    simp only [lkM] at hb
    cases hq : Nat.beq y p.1 with
    | true =>
      rw [hq] at hb
      simp only [cond_true] at hb
      injection hb with hb
      have e := Nat.eq_of_beq_eq_true hq
      rcases h.1 with h1 | h1
      · exact absurd (e.trans h1) hy
      · rw [e, ← hb]; exact h1
    | false =>
      rw [hq] at hb
      exact ih h.2 y b hy hb
end
end Go.Sx
/- The symbolic executor, part AU: functions that range over a function, walked part by part; calls of yield with fresh values. Generic over P. -/
set_option linter.unusedVariables false
set_option linter.unusedSimpArgs false
namespace Go.Sx
open Go.RowKit
section
variable {P : Program} {E : Env} {K : Exit → St → Prop} {T : Tab}
theorem enterRaw {f : FuncId} {fn : Func} {c : Code} {args : Array Value} {w : World} {R : Ending → World → Prop} (L : List Nat) (avs : List AV) (ml : List (Nat × Blk)) (hf : P.funcs[f]? = some fn) (hb : fn.body = some c) (N : Nat) (hN : fn.ntmps = N) (hargs : args = (avs.map (AV.conc fun _ => (0, 0))).toArray)
    (hl : Nat.ble avs.length N = true) (hc : allCn avs) (hm : mlOK 1000 L w ml) (h : ∀ ρ a, Sat ⟨w, borT 1000 L, N, none, []⟩ ρ ⟨argsT avs, lkM ml⟩ a w → c.wpIn (fenR none) 6 P (bodyPostM (fenR none) 6 P fn R) a w) : Calls P f args w R := by
  subst hN
  have hl := Nat.le_of_ble_eq_true hl
  have h0 : Sat ⟨w, borT 1000 L, fn.ntmps, none, []⟩ (ρT 1000 L) (St.of [] ml) { tmps := args ++ Array.replicate (fn.ntmps - args.size) undef, defers := [] } w :=
    Sat.say0 (Nat.le_refl _) rfl (by rw [hargs]; simp; omega) trivial hm
  refine callsIn_wide.1 (callsIn_of_wp_marks (n := 6) (F := Fence.wide) hf hb trivial (h (ρT 1000 L) _ ⟨h0.mem, h0.df, h0.sz, fun j => ?_⟩))
  show (argsT avs j).rep _ _ _
  unfold argsT
  cases hj : avs[j]? with
  | none => trivial
  | some a =>
    have hlt : j < avs.length := (List.getElem?_eq_some_iff.1 hj).1
    have hmem : a ∈ avs := List.mem_of_getElem? hj
    have hr := cnV_rep (allCn_mem hc a hmem) (ρT 1000 L) (fun _ => (0, 0)) (lkM ml)
    refine ⟨hr.1, ?_⟩
    rw [← hr.2, hargs, Array.getD_eq_getD_getElem?, Array.getElem?_append_left (by simpa using hlt)]
    simp [hj]
/-- The end, with the mark of a range that is over. -/
theorem marks_end {fn : Func} {R : Ending → World → Prop} {e : Exit} {a : Act} {w : World} {D : Nat} {v : Value} (he : e = .ret ∨ e = .normal) (hd : a.defers = [{ target := .collected D, args := #[] }]) (hK : w.heap[D]? = some (.deferred (some [])))
    (hv : (results fn a.tmps).run P (w.putObj D (.deferred none)) = .ok v (w.putObj D (.deferred none))) (hR : R (.returned v) (w.putObj D (.deferred none))) : bodyPostM (fenR none) 6 P fn R e a w := by
  have h : LeavesInM (fenR none) 6 P fn a.tmps R a.defers .returning w := by
    rw [hd]
    exact ⟨by simp, .inl ⟨D, _, rfl, run_takeDeferred hK, v, hv, hR⟩⟩
  rcases he with rfl | rfl <;> exact h
/-! ### Yield with what is fresh -/
end
end Go.Sx
/- The symbolic executor, part AV: a constant slice that is loaded and named at once; choices whose form is known; functions that answer with a closure over two boxes. Generic over P. -/
set_option linter.unusedVariables false
set_option linter.unusedSimpArgs false
namespace Go.Sx
open Go.RowKit
section
variable {P : Program} {E : Env} {K : Exit → St → Prop} {T : Tab}
theorem up_up {α : Type} (f : Nat → α) (d : Nat) (u v : α) : up (up f d u) d v = up f d v := by
  funext j
  by_cases e : j = d
  · subst e; rw [up_same, up_same]
  · rw [up_other _ _ e, up_other _ _ e, up_other _ _ e]
theorem Steps.loadOpen (hT : Tab.fine P T) {ops : Array Oper} {o : Oper} {C : St} {t b dd : Nat} {y : Operand} {S : Nat → Prop} {R : World → Prop} {d : TyD} {ty : TypeId} (X yn : Nat) (A : Option Addr) (n cap sz : Nat) (el : Nat → List Value) (hg : o.guard = none) (hop : o.op = .load t y) (ho : o.dst = some dd) (hd : dstOk E.N o.dst = true) (hy : evT C.t y = .v (.c (.k (.pointer (some ⟨b, 0, none⟩)))))
    (hX : C.m X = some (.say S R)) (hR : ∀ w, R w → w.heap[b]? = some (.cells #[.slice A n cap] ty (0, 0))) (ht : T t = some d) (hl : 1 = d.size) (hag : d.kind.isAgg = false) (hRd : ∀ w, R w → RdRow w A n sz el) (hS : ∀ k, sb (.slice A n cap) k → S k) (hyn : C.m yn = none) (hyb : Nat.blt yn 1000 = true) :
    Steps P E ops o C (.v (.c (.inp yn A n cap))) [(yn, .ro sz n el)] := by
  intro st hle ρ a w hs Kc Q hk
  have hX' : st.m X = some (.say S R) := by
    rcases hle.m X with h | h
    · rw [hX] at h; cases h
    · exact h.trans hX
  have hy' : st.m yn = none := (hle.n yn (by simp [mget])).trans hyn
  refine Steps.loadK hT X [.slice A n cap] hg hop hd hy hX (by simpa using hR) ht hl st ⟨hle.t, hle.m, hle.d, fun y h => by cases h⟩ ρ a w hs Kc Q fun ρ' a' w' hs' => ?_
  have e1 : loadAV d [Value.slice A n cap] = .c (.k (.slice A n cap)) := by unfold loadAV; rw [hag]; rfl
  rw [e1, ho] at hs'
  have hs2 : Sat E ρ' ⟨up st.t dd (.v (.c (.k (.slice A n cap)))), st.m⟩ a' w' := hs'
  obtain ⟨ρ2, h2⟩ := hs2.openSay (X := X) (y := yn) (d := dd) hX' hRd hS (up_same _ _ _) hy' (by simpa [Nat.blt_eq] using hyb)
  refine hk ρ2 a' w' ?_
  rw [ho, upm_one]
  rw [up_up] at h2
  exact h2
/-- What is told of all blocks. -/
def allMs (Q : Nat → Blk → Prop) : List (Nat × Blk) → Prop
  | [] => True
  | p :: r => Q p.1 p.2 ∧ allMs Q r
theorem allMs_get {Q : Nat → Blk → Prop} {l : List (Nat × Blk)} (h : allMs Q l) {y : Nat} {b : Blk} (hb : mget l y = some b) : Q y b := by
  induction l with
  | nil => cases hb
  | cons p r ih =>
    obtain ⟨z, c⟩ := p
    unfold mget at hb
    cases e : Nat.beq y z with
    | true => rw [e] at hb; rw [Nat.eq_of_beq_eq_true e]; cases hb; exact h.1
    | false => rw [e] at hb; exact ih h.2 hb
def allRc (Q : Nat → Blk → Prop) : List DR → Prop
  | [] => True
  | r :: l => allMs Q r.ms ∧ allRc Q l
theorem atR_all {Q : Blk → Prop} {D : Nat → Bool} {x : Nat} {recs : List DR} {b0 : Option Blk} (h0 : ∀ b, b0 = some b → Q b) (hr : ∀ r ∈ recs, ∀ b, mget r.ms x = some b → Q b) : ∀ b, atR D (gM x) recs b0 = some b → Q b := by
  induction recs with
  | nil => exact h0
  | cons r l ih =>
    intro b hb
    have hi := ih (fun r' hr' => hr r' (List.mem_cons_of_mem _ hr'))
    simp only [atR] at hb
    split at hb
    · cases hm : mget r.ms x with
      | none => simp only [gM, hm] at hb; exact hi b hb
      | some c =>
        simp only [gM, hm] at hb
        cases hb
        exact hr r List.mem_cons_self _ hm
    · exact hi b hb
theorem allRc_mem {Q : Nat → Blk → Prop} {recs : List DR} (h : allRc Q recs) : ∀ r ∈ recs, allMs Q r.ms := by
  induction recs with
  | nil => intro r hr; cases hr
  | cons q l ih =>
    intro r hr
    cases hr with
    | head => exact h.1
    | tail _ hr => exact ih h.2 r hr
theorem canF_all {Q : Nat → Blk → Prop} {l : List Oper} {cls : List Nat} {X : List (Nat × Nat)} {base : St} {i : Nat} {recs : List DR} (hi : recs.length = i) (hb : ∀ y b, base.m y = some b → Q y b) (hr : allRc Q recs) : ∀ y b, (canF l cls X base i recs).m y = some b → Q y b := by
  intro y b h
  rw [canF_eq hi] at h
  simp only [can] at h
  split at h
  · cases h
  · exact atR_all (fun b => hb y b) (fun r hm b hg => allMs_get (allRc_mem hr r hm) hg) b h
end
end Go.Sx
/- The symbolic executor, part AW: rows whose elements are slices that calls have made: what is told of an element is kept. Generic over P. -/
set_option linter.unusedVariables false
set_option linter.unusedSimpArgs false
namespace Go.Sx
open Go.RowKit
section
variable {P : Program} {E : Env} {K : Exit → St → Prop} {T : Tab}
/-- make of n elements of one cell each, n not 0. -/
theorem Steps.make1 {ops : Array Oper} {o : Oper} {C : St} {l c : Operand} {t e bytes d : Nat} {z : Value} {kl kc : IntKind} (n : Nat) (hp : ApT P t e 1 bytes z) (hz1 : z.cells = #[z]) (hg : o.guard = none) (hop : o.op = .makeSlice t l c)
    (hd : o.dst = some d) (hdN : Nat.blt d E.N = true) (hdb : Nat.blt d 1000 = true) (hfree : C.m d = none) (hl : evT C.t l = .v (.c (.k (.int kl (n : Int))))) (hc : evT C.t c = .v (.c (.k (.int kc (n : Int))))) (h0 : 0 < n) (b1 : n ≤ maxLen) (b2 : bytes * n ≤ 281474976710656) :
    Steps P E ops o C (.v (.c (.slc d 0 1 n n))) [(d, .arr e 1 n (fun _ => [z]) ((n - n) * 1))] := by
  intro st hle ρ a w hsat Kc Q hk
  have hs' := hsat.weakT hle.t
  obtain ⟨i, hi, hz, hs, hb⟩ := hp.info
  have el : a.eval l = .int kl (n : Int) := by have := hs'.eval l; rw [show (St.mk C.t st.m).ev l = _ from hl] at this; exact this.2
  have ec : a.eval c = .int kc (n : Int) := by have := hs'.eval c; rw [show (St.mk C.t st.m).ev c = _ from hc] at this; exact this.2
  have hfree' : st.m d = none := (hle.n d (by simp [mget])).trans hfree
  obtain ⟨w', hrun, r1, r2⟩ := run_make_full (P := P) w w.heap.size t e i z 1 hp.ht hi hz hs kl kc n (by rw [hb]; exact b2) b1 (Nat.le_refl _)
  have hcells : (madeCells z.cells (n * 1)).toList = flatE (fun _ => [z]) 0 n := by
    rw [hz1, toList_madeCells_one, Nat.mul_one]
    have : ∀ (k i : Nat), flatE (fun _ => [z]) i k = List.replicate k z := by
      intro k
      induction k with
      | zero => intro i; rfl
      | succ k ih => intro i; rw [flatE, ih]; rfl
    exact (this n 0).symm
  rw [hcells] at r1
  rw [if_pos (by simp [Region.wanted, hg])]
  refine .inl ?_
  unfold Oper.wp
  have : (execOp a.eval o).run P w = .ok (.value (.slice (some ⟨w.heap.size, 0, none⟩) n n)) w' := by
    simp [execOp, hop, el, ec, hrun, Result.andThen]
  rw [this]
  obtain ⟨ρ', c', h2, h3, h4, h5⟩ := hsat.mem.newOwn hfree' (by simpa [Nat.blt_eq] using hdb) (el := fun _ => [z]) (fun i hi => rfl) h0 r1 r2
  have hcn : c' = n := by
    have h6 : Value.slice (some ⟨w.heap.size, 0, none⟩) n n = Value.slice (some ⟨(ρ' d).1, (ρ' d).2 + 0 * 1, none⟩) n c' := h5
    injection h6 with _ _ h7
    exact h7.symm
  subst hcn
  refine hk ρ' _ w' ?_
  rw [hd, upm_one]
  refine (hsat.move h4 (fun y hy => isSome_up y hy) h3).put (by simpa [Nat.blt_eq] using hdN) ⟨?_, h5⟩
  show (up st.m d _ d).isSome = true
  rw [up_same]; rfl
/-- A call that answers any value, of which something is told; this may hang on blocks of which it was told before. -/
theorem SatM.told2 {ρ : Val} {m : Mem} {w w' : World} (h : SatM E ρ m w) (hb : Below w.heap.size w w') {x X : Nat} {S S1 : Nat → Prop} {R R1 : World → Prop} (hx : m x = none) (hX : m X = some (.say S1 R1)) (hr : R w') (hs : ∀ k, S k → (w.heap.size ≤ k ∨ S1 k) ∧ k < w'.heap.size) (hst : Steady S R) : SatM E ρ (up m x (some (.say S R))) w' := by
  have h2 := h.below hb
  refine h2.swap h2.fr (Nat.le_refl _) (fun z hz => isSome_up z hz) fun z b hz => ?_
  by_cases e : z = x
  · subst e
    rw [up_same] at hz
    injection hz with hz
    subst hz
    refine .inr (.inl ⟨S, R, rfl, hr, fun k hk => (hs k hk).2, hst, fun z2 c hz2 hc ho hk => ?_⟩)
    rw [up_other _ _ hz2] at hc
    rcases (hs _ hk).1 with h1 | h1
    · have := h.lt hc ho
      omega
    · exact h.ne z2 X c _ hc hX ho trivial (fun e => by subst e; rw [hX] at hc; cases hc; exact ho) h1
  · rw [up_other _ _ e] at hz
    exact .inl ⟨hz, fun _ _ _ => rfl⟩
theorem GO.callSayX {ι : Type} {ops : Array Oper} {rest : List Oper} {o : Oper} {c : Call} {f : FuncId} {avs : List AV} {caps : List Cap} {t : Nat → TV} {m : Mem} {S1 : Nat → Prop} {R1 : World → Prop} (X x : Nat) (val : ι → Value) (S : ι → Nat → Prop) (R : ι → World → Prop) (hg : o.guard = none) (hop : o.op = .call c) (he : callE t c = .mk f avs caps) (hd : dstOk E.N o.dst = true) (hx : m x = none) (hX : m X = some (.say S1 R1))
    (hcf : ∀ (args : Array Value) (w : World), (callFunc f args).run P w = .ok (.enter f args) w)
    (hc : ∀ ρ w, SatM E ρ m w → (∀ v ∈ avs, v.ok ρ m) → Calls P f (avs.map (AV.conc ρ) ++ caps.map (Cap.conc ρ)).toArray w fun e w' => ∃ i, e = .returned (val i) ∧ Below w.heap.size w w' ∧ R i w' ∧ (∀ k, S i k → (w.heap.size ≤ k ∨ S1 k) ∧ k < w'.heap.size) ∧ Steady (S i) (R i))
    (k : ∀ i, GO P E ops K rest ⟨Sx.putT t o.dst (toTV (val i)), up m x (some (.say (S i) (R i)))⟩) : GO P E ops K (o :: rest) ⟨t, m⟩ := by
  refine GO.call hg hop he hcf (fun ρ a w hs hok _ => (hc ρ w hs.mem hok).mono ?_)
  rintro e w' ⟨i, rfl, hb, hr, hk, hst⟩
  exact ⟨_, ρ, _, rfl, ((hs.below hb).remem0 (hs.mem.told2 hb hx hX hr hk hst) (fun z hz => isSome_up z hz)).putT (dstOk_lt hd) (toTV_rep _ _ _), k i⟩
/-- A constant pointer at a block that we may turn. -/
theorem Sat.toPtr {ρ : Val} {st : St} {a : Act} {w : World} (hs : Sat E ρ st a w) {d g : Nat} (x : Nat) (h : st.t d = .v (.c (.k (.pointer (some ⟨g, 0, none⟩))))) (hb : (x, g) ∈ E.bor) (hx : (st.m x).isSome = true) : Sat E ρ ⟨up st.t d (.v (.c (.ptr x 0 0 0))), st.m⟩ a w := by
  obtain ⟨t, m⟩ := st
  refine hs.remem hs.mem (fun z hz => hz) ?_
  have h1 := hs.tm d
  rw [h] at h1
  have h2 := (hs.mem.bo _ hb).1
  simp only at h2
  refine ⟨hx, h1.2.trans ?_⟩
  simp [AV.conc, AC.conc, h2]
end
end Go.Sx
/- The symbolic executor, part AX: rows whose elements begin with a slice that a call has made, with further cells. Generic over P. -/
set_option linter.unusedVariables false
set_option linter.unusedSimpArgs false
namespace Go.Sx
open Go.RowKit
section
variable {P : Program} {E : Env} {K : Exit → St → Prop} {T : Tab}
/-- What is told may be used. -/
theorem G.fact {c : Code} {t : Nat → TV} {m : Mem} (X : Nat) {S : Nat → Prop} {R : World → Prop} {φ : Prop} (hX : m X = some (.say S R)) (h : ∀ w, R w → φ) (k : φ → G P E K c ⟨t, m⟩) : G P E K c ⟨t, m⟩ := G.sem fun ρ a w hs => ⟨ρ, _, hs, k (h w (hs.mem.ok X _ hX).1)⟩
end
end Go.Sx
/- The symbolic executor, part AY: a slice that lies in a block of ours, and that a call has told of, gets a name. Generic over P. -/
set_option linter.unusedVariables false
set_option linter.unusedSimpArgs false
namespace Go.Sx
open Go.RowKit
section
variable {P : Program} {E : Env} {K : Exit → St → Prop} {T : Tab}
theorem SatM.cells {ρ : Val} {m : Mem} {w : World} (h : SatM E ρ m w) {x : Nat} {ty : TypeId} {cs cs' : List AC} (hx : m x = some (.var ty cs)) (he : cs'.map (AC.conc ρ) = cs.map (AC.conc ρ)) (hok : ∀ c ∈ cs', c.ok ρ m) : SatM E ρ (up m x (some (.var ty cs'))) w := by
  have hm : ∀ y b, up m x (some (.var ty cs')) y = some b → (y = x ∧ b = .var ty cs') ∨ (y ≠ x ∧ m y = some b) := by
    intro y b hy
    by_cases e : y = x
    · subst e
      rw [up_same] at hy
      cases hy
      exact .inl ⟨rfl, rfl⟩
    · rw [up_other _ _ e] at hy
      exact .inr ⟨e, hy⟩
  have mono : ∀ z, (m z).isSome = true → (up m x (some (.var ty cs')) z).isSome = true := fun z hz => isSome_up z hz
  refine ⟨h.fr, h.bo, fun y b hy => ?_, fun y z c d hy hz hc hd hne => ?_⟩
  · rcases hm y b hy with ⟨rfl, rfl⟩ | ⟨e, hy⟩
    · obtain ⟨h1, h2, h3, h4⟩ := h.ok y _ hx
      exact ⟨h1, h2, by rw [he]; exact h3, fun c hc => AC.ok_mono mono (fun _ _ => rfl) (hok c hc)⟩
    · exact (h.ok y b hy).far mono (Nat.le_refl _) fun _ _ _ => rfl
  · have old : ∀ y b, up m x (some (.var ty cs')) y = some b → ∃ b0, m y = some b0 ∧ (b.own → b0.own) ∧ (b.live → b0.live) ∧ ∀ p k, b.hits p k → b0.hits p k := by
      intro y b hy
      rcases hm y b hy with ⟨rfl, rfl⟩ | ⟨e, hy⟩
      · exact ⟨_, hx, fun _ => trivial, fun _ => trivial, fun p k hk => hk⟩
      · exact ⟨b, hy, id, id, fun p k hk => hk⟩
    obtain ⟨b1, g1, o1, _, _⟩ := old y c hy
    obtain ⟨b2, g2, _, l2, t2⟩ := old z d hz
    intro hk
    exact h.ne y z b1 b2 g1 g2 (o1 hc) (l2 hd) hne (t2 _ _ hk)
theorem G.openVar {c : Code} {t : Nat → TV} {m : Mem} (X y x i : Nat) {ty : TypeId} {cells : List AC} {n sz cap : Nat} {A : Option Addr} {el : Nat → List Value} {S : Nat → Prop} {R : World → Prop} (hX : m X = some (.say S R)) (hR : ∀ w, R w → RdRow w A n sz el) (hS : ∀ k, sb (.slice A n cap) k → S k)
    (hx : m x = some (.var ty cells)) (hi : cells[i]? = some (.k (.slice A n cap))) (hy : m y = none) (hyb : Nat.blt y 1000 = true) (k : G P E K c ⟨t, up (up m y (some (.ro sz n el))) x (some (.var ty (cells.set i (.inp y A n cap))))⟩) : G P E K c ⟨t, m⟩ :=
  G.sem fun ρ a w h => by
    have hk := h.mem.ok X _ hX
    obtain ⟨ρ', h1, h2, h3⟩ := h.mem.addRo (cap := cap) hy (by simpa [Nat.blt_eq] using hyb) (A := A) (n := n) (sz := sz) (el := el) fun h0 => by
      obtain ⟨b, o, rfl, h4, h5⟩ := hR w hk.1 h0
      refine ⟨b, o, rfl, h4, fun z c hz hc e => ?_, h5⟩
      have hzX : z ≠ X := fun e => by subst e; have := hX.symm.trans hz; cases this; exact hc
      exact h.mem.ne z X c _ hz hX hc trivial hzX (show S (ρ z).1 from hS _ ⟨h0, _, rfl, e.symm⟩)
    have hxy : x ≠ y := fun e => by subst e; rw [hy] at hx; cases hx
    have hx' : up m y (some (.ro sz n el)) x = some (.var ty cells) := by rw [up_other _ _ hxy]; exact hx
    have hlt : i < cells.length := (List.getElem?_eq_some_iff.1 hi).1
    have hold := (h2.ok x _ hx').2.2.2
    have h4 := h2.cells (cs' := cells.set i (.inp y A n cap)) hx' (by
      apply List.ext_getElem?
      intro j
      rw [List.getElem?_map, List.getElem?_map, List.getElem?_set]
      by_cases e : i = j
      · subst e
        have hi' : cells[i] = .k (.slice A n cap) := (List.getElem?_eq_some_iff.1 hi).2
        simp [hlt, hi', AC.conc]
      · simp [e]) (fun c hc => by
      rcases List.mem_or_eq_of_mem_set hc with hc | rfl
      · exact hold c hc
      · exact h3)
    exact ⟨ρ', _, h.move h4 (fun z hz => isSome_up z (isSome_up z hz)) h1, k⟩
end
end Go.Sx
/- The symbolic executor, part AZ: parts of slices that are told of; append of many elements onto a row of ours. Generic over P. -/
set_option linter.unusedVariables false
set_option linter.unusedSimpArgs false
namespace Go.Sx
open Go.RowKit
section
variable {P : Program} {E : Env} {K : Exit → St → Prop} {T : Tab}
/-! ### A part of a constant slice -/
/-! ### Append of many -/
/-! ### Append of one onto a row of ours, which may be empty -/
end
end Go.Sx
/- The symbolic executor, part BA: ranges over functions that give constants; a round may end the loop and the function. Generic over P. -/
set_option linter.unusedVariables false
set_option linter.unusedSimpArgs false
namespace Go.Sx
open Go.RowKit
/-- A call of yield for the i-th values; go says whether the rounds go on. The caller's blocks are T. -/
def YieldsC (P : Program) (l : Nat) (T : List Nat) (n : Nat) (val : Nat → Array Value) (go : Nat → Bool) (J : Nat → World → Prop) (W : World) : Prop :=
  ∀ i W1, i < n → (∀ j, j < i → go j = true) → Fr W T W1 → J i W1 → YieldAt Fence.wide 5 P l (val i) W1 fun e W' => e = .returned (.bool (go i)) ∧ Fr W1 T W' ∧ J (i + 1) W'
/-- How many rounds there were: all, or up to the first that ended the loop. -/
def EndC (n : Nat) (go : Nat → Bool) (i : Nat) : Prop := i ≤ n ∧ ((i = n ∧ ∀ j, j < n → go j = true) ∨ ∃ k, i = k + 1 ∧ (∀ j, j < k → go j = true) ∧ go k = false)
/-- WHAT AN ITERATOR OVER n CONSTANT VALUES OWES. -/
def IterC (P : Program) (g : Value) (rd : Nat → Prop) (n : Nat) (val : Nat → Array Value) (w : World) : Prop :=
  ∃ f lb, g = .func (.func f) #[] lb ∧ (∀ (args : Array Value) (w : World), (callFunc f args).run P w = .ok (.enter f args) w) ∧
  ∀ (l : Nat) (T : List Nat) (go : Nat → Bool) (J : Nat → World → Prop) (W : World),
    (∀ k, rd k → W.heap[k]? = w.heap[k]?) → w.heap.size ≤ W.heap.size → (∀ k ∈ T, k < W.heap.size ∧ ¬ rd k) → (∀ i, Steady (fun k => k ∈ T) (J i)) → YieldsC P l T n val go J W → J 0 W →
    Calls P f (#[.func (.yield l) #[] #[]] ++ lb) W fun e W' => (∃ v, e = .returned v) ∧ Fr W T W' ∧ ∃ i, EndC n go i ∧ J i W'
theorem IterC.steady {P : Program} {g : Value} {rd : Nat → Prop} {n : Nat} {val : Nat → Array Value} : Steady rd (IterC P g rd n val) := by
  rintro w1 w2 h1 h2 ⟨f, lb, e1, e2, h⟩
  exact ⟨f, lb, e1, e2, fun l T go J W h3 h4 => h l T go J W (fun k hk => (h3 k hk).trans (h1 k hk)) (Nat.le_trans h2 h4)⟩
def putA (ps : Array Tmp) (vs : Array Value) (a : Array Value) : Array Value := (ps.zip vs).foldl (fun tmps (t, a) => tmps.setIfInBounds t a) a
/-- THE STATEMENT 'for .. := range g' over constants. cells i: what the loop's blocks T hold behind i rounds. -/
theorem wp_rangeC {P : Program} {g : Operand} {ps : Array Tmp} {assign body : Code} {Q : Exit → Act → World → Prop} {a : Act} {w : World} {gv : Value} {rd : Nat → Prop} {n : Nat} {val : Nat → Array Value}
    (hg : a.eval g = gv) (hI : IterC P gv rd n val w) (hrd : ∀ k, rd k → k < w.heap.size) (hps : ∀ i, i < n → (val i).size = ps.size) (T : List Nat) (hT : ∀ k ∈ T, k < w.heap.size ∧ ¬ rd k)
    (go : Nat → Bool) (cells : Nat → World → Prop) (hst : ∀ i, Steady (fun k => k ∈ T) (cells i)) (h0 : cells 0 w)
    (hround : ∀ l i W1, i < n → (∀ j, j < i → go j = true) → l = w.heap.size + 1 → Fr w T W1 → l < W1.heap.size → cells i W1 →
      ∃ A₁ : Act → World → Prop, assign.wpIn (fenR (some l)) 6 P (fun e a₁ w₁ => e = .normal ∧ A₁ a₁ w₁) { tmps := putA ps (val i) a.tmps, defers := [] } W1 ∧
        ∀ a₁ w₁, A₁ a₁ w₁ → Fr W1 (l :: T) w₁ ∧ w₁.heap[l]? = W1.heap[l]? ∧ ∀ W2, Fr w₁ [l] W2 →
          body.wpIn (fenR (some l)) 6 P (fun e a₃ W3 => e = (if go i = true then Exit.normal else Exit.ret) ∧ Fr W1 (l :: T) W3 ∧ W3.heap[l]? = W2.heap[l]? ∧ cells (i + 1) W3) a₁ W2)
    (hdone : (∀ j, j < n → go j = true) → ∀ W3, Fr w T W3 → cells n W3 → w.heap.size < W3.heap.size → W3.heap[w.heap.size]? = some (.deferred (some [])) → Q .normal { a with defers := { target := .collected w.heap.size, args := #[] } :: a.defers } W3)
    (hstop : ∀ i, i < n → (∀ j, j < i → go j = true) → go i = false → ∀ W3, Fr w T W3 → cells (i + 1) W3 → w.heap.size < W3.heap.size → W3.heap[w.heap.size]? = some (.deferred (some [])) → Code.ret.wpIn (fenR none) 6 P Q { a with defers := { target := .collected w.heap.size, args := #[] } :: a.defers } W3) :
    (Code.rangeFunc g ps assign body).wpIn (fenR none) 6 P Q a w := by
  obtain ⟨f, lb, rfl, eg, hseq⟩ := hI
  rw [fenR_none]
  refine wpIn_rangeFunc ?_
  intro fn hfn
  obtain ⟨rec, hrec⟩ : ∃ rec : LoopState → Option Code → Loop, rec = fun st pe => { state := st, pending := pe, fn, tmps := a.tmps, params := ps, assign, body, defers := w.heap.size } := ⟨_, rfl⟩
  obtain ⟨W1, hW1⟩ : ∃ W1, (w.alloc (.deferred (some []))).alloc (.loop (rec .ready none)) = W1 := ⟨_, rfl⟩
  have hsz1 : W1.heap.size = w.heap.size + 2 := by rw [← hW1]; simp
  have hL1 : W1.heap[w.heap.size + 1]? = some (.loop (rec .ready none)) := by
    rw [← hW1]; have := World.alloc_heap_new (w.alloc (.deferred (some []))) (.loop (rec .ready none)); rwa [World.size_alloc] at this
  have hK1 : W1.heap[w.heap.size]? = some (.deferred (some [])) := by
    rw [← hW1]; exact (Below.heap_alloc _ _ _ (by simp)).trans (World.alloc_heap_new w _)
  have hB1 : Below w.heap.size w W1 := by rw [← hW1]; exact ((Below.refl _ w).alloc (Nat.le_refl _) _).alloc (by simp) _
  have hI1 : cells 0 W1 := hst _ w W1 (fun k hk => hB1.block k (hT k hk).1) hB1.size h0
  have hfr1 : Fr w [] W1 := Fr.of_below hB1
  have hlT : w.heap.size + 1 ∉ T := fun h => by have := (hT _ h).1; omega
  have hDT : w.heap.size ∉ T := fun h => by have := (hT _ h).1; omega
  -- the record behind i rounds
  obtain ⟨rc, hrc⟩ : ∃ rc : Nat → Loop, rc = fun i => match i with | 0 => rec .ready none | i + 1 => if go i = true then rec .ready none else rec .done (some .ret) := ⟨_, rfl⟩
  refine ⟨w.heap.size + 1, [{ target := .collected w.heap.size, args := #[] }], W1, { target := .fn (.func f) lb, args := #[.func (.yield (w.heap.size + 1)) #[] #[]] }, W1, f,
    #[.func (.yield (w.heap.size + 1)) #[] #[]] ++ lb, W1, ?_, ?_, ?_, ?_, (fun hd => by cases hd), ?_⟩
  · rw [← hW1, hrec]; exact run_enterLoop_outer _ _ _ _ _
  · simp only [resolve, hg]
    simp [go_sem]
  · intro f' hf'; trivial
  · simp [invoke, go_sem, eg]
  · refine callsIn_wide.2 ((hseq (w.heap.size + 1) ((w.heap.size + 1) :: w.heap.size :: T) go
      (fun i W => cells i W ∧ W.heap[w.heap.size + 1]? = some (.loop (rc i)) ∧ W.heap[w.heap.size]? = some (.deferred (some [])))
      W1 (fun k hk => hB1.block k (hrd k hk)) (by omega) ?_ (fun i => ?_) ?_ ⟨hI1, by rw [hrc]; exact hL1, hK1⟩).mono ?_)
    · intro k hk
      rcases List.mem_cons.1 hk with rfl | hk
      · exact ⟨by omega, fun h => by have := hrd _ h; omega⟩
      rcases List.mem_cons.1 hk with rfl | hk
      · exact ⟨by omega, fun h => by have := hrd _ h; omega⟩
      · exact ⟨by have := (hT k hk).1; omega, (hT k hk).2⟩
    · rintro X Y h1 h2 ⟨e3, e4, e5⟩
      exact ⟨hst i X Y (fun k hk => h1 k (by simp [hk])) h2 e3, (h1 _ (by simp)).trans e4, (h1 _ (by simp)).trans e5⟩
    · rintro i W hi hgo hfrW ⟨e3, hl, hk⟩
      have hrci : rc i = rec .ready none := by
        rw [hrc]
        cases i with
        | zero => rfl
        | succ i => show (if go i = true then _ else _) = _; rw [if_pos (hgo i (by omega))]
      rw [hrci] at hl
      have hlt : w.heap.size + 1 < W.heap.size := (Array.getElem?_eq_some_iff.1 hl).1
      have hfw : Fr w T W := (hfr1.more (by simp)).trans' hfrW fun k hk h => by
        rcases List.mem_cons.1 h with rfl | h
        · omega
        rcases List.mem_cons.1 h with rfl | h
        · omega
        · exact h
      have hy := run_yield (P := P) (args := val i) hl (by rw [hrec]; exact hps i hi)
      rw [hrec] at hy
      obtain ⟨A₁, hA, hB⟩ := hround (w.heap.size + 1) i W hi hgo rfl hfw hlt e3
      refine ⟨fn, _, assign, body, hy, roundIn_of_wpIn hfn (wpIn_mono (wpIn_n hA) ?_)⟩
      rintro e a₁ w₁ ⟨rfl, ha⟩
      obtain ⟨hfr, hll, hbody⟩ := hB a₁ w₁ ha
      have hl1 : w₁.heap[w.heap.size + 1]? = some (.loop (rec .ready none)) := hll.trans hl
      have hlt1 : w.heap.size + 1 < w₁.heap.size := (Array.getElem?_eq_some_iff.1 hl1).1
      refine ⟨_, run_beginRound hl1 (by rw [hrec]), ?_⟩
      obtain ⟨W2, hW2⟩ : ∃ W2, w₁.putObj (w.heap.size + 1) (.loop { rec .ready none with state := .busy }) = W2 := ⟨_, rfl⟩
      rw [hW2]
      have hl2 : W2.heap[w.heap.size + 1]? = some (.loop { rec .ready none with state := .busy }) := by rw [← hW2]; exact World.putObj_heap_same hlt1
      have hf2 : Fr w₁ [w.heap.size + 1] W2 := by rw [← hW2]; exact Fr.putObj (Fr.refl _ _) (.inr (by simp)) _
      refine wpIn_mono (wpIn_n (hbody W2 hf2)) ?_
      rintro e a₃ W3 ⟨rfl, hf3, hl3, hi3⟩
      have hl3 : W3.heap[w.heap.size + 1]? = some (.loop { rec .ready none with state := .busy }) := hl3.trans hl2
      have hk3 : W3.heap[w.heap.size]? = some (.deferred (some [])) := (hf3.block _ (by omega) (by simp [hDT])).trans hk
      have hlt3 : w.heap.size + 1 < W3.heap.size := (Array.getElem?_eq_some_iff.1 hl3).1
      have hfr3 : ∀ o, Fr W ((w.heap.size + 1) :: w.heap.size :: T) (W3.putObj (w.heap.size + 1) o) := fun o => by
        refine Fr.putObj (hf3.more fun k h => ?_) (.inr (by simp)) _
        rcases List.mem_cons.1 h with h | h <;> simp [h]
      have hcell : ∀ o, cells (i + 1) (W3.putObj (w.heap.size + 1) o) := fun o => hst _ W3 _ (fun k hk => World.putObj_heap_other fun e => hlT (e ▸ hk)) (by simp) hi3
      by_cases hgi : go i = true
      · rw [if_pos hgi]
        have hend := run_endRound (P := P) none hl3
        rw [hrec] at hend
        refine ⟨_, _, hend, by simp [hgi], hfr3 _, hcell _, ?_, (World.putObj_heap_other (by omega)).trans hk3⟩
        rw [World.putObj_heap_same hlt3, hrc, hrec]
        simp [hgi]
      · rw [if_neg hgi]
        have hend := run_endRound (P := P) (some .ret) hl3
        rw [hrec] at hend
        refine ⟨_, _, hend, by simp [hgi], hfr3 _, hcell _, ?_, (World.putObj_heap_other (by omega)).trans hk3⟩
        rw [World.putObj_heap_same hlt3, hrc, hrec]
        simp [hgi]
    · rintro e W2 ⟨⟨v, rfl⟩, hfr, i, ⟨hin, hend0⟩, e3, hl, hk⟩
      have hlt : w.heap.size + 1 < W2.heap.size := (Array.getElem?_eq_some_iff.1 hl).1
      have hbusy : (rc i).state ≠ .busy := by
        rw [hrc]
        cases i with
        | zero => rw [hrec]; simp
        | succ i =>
          show (if go i = true then rec .ready none else rec .done (some .ret)).state ≠ _
          split <;> (rw [hrec]; simp)
      have hend := run_endLoop (P := P) hl hbusy
      have hfw : Fr w T (W2.putObj (w.heap.size + 1) (.loop { rc i with state := .exhausted })) := by
        refine Fr.putObj ?_ (.inl (by omega)) _
        exact (hfr1.more (by simp)).trans' hfr fun k hk h => by
          rcases List.mem_cons.1 h with rfl | h
          · omega
          rcases List.mem_cons.1 h with rfl | h
          · omega
          · exact h
      have hc3 : cells i (W2.putObj (w.heap.size + 1) (.loop { rc i with state := .exhausted })) := hst _ W2 _ (fun k hk => World.putObj_heap_other fun e => hlT (e ▸ hk)) (by simp) e3
      have hk3 : (W2.putObj (w.heap.size + 1) (.loop { rc i with state := .exhausted })).heap[w.heap.size]? = some (.deferred (some [])) := (World.putObj_heap_other (by omega)).trans hk
      have hls : w.heap.size < (W2.putObj (w.heap.size + 1) (.loop { rc i with state := .exhausted })).heap.size := by rw [World.putObj_size]; omega
      obtain ⟨W3, hW3⟩ : ∃ W3, W2.putObj (w.heap.size + 1) (.loop { rc i with state := .exhausted }) = W3 := ⟨_, rfl⟩
      rw [hW3] at hend hfw hc3 hk3 hls
      rcases hend0 with ⟨rfl, hall⟩ | ⟨k, rfl, hpre, hk0⟩
      · have hp : (rc i).pending = none := by
          rw [hrc]
          cases i with
          | zero => rw [hrec]
          | succ i => show (if go i = true then rec .ready none else rec .done (some .ret)).pending = _; rw [if_pos (hall i (by omega)), hrec]
        rw [hp] at hend
        exact ⟨none, _, hend, hdone hall _ hfw hc3 hls hk3⟩
      · have hp : (rc (k + 1)).pending = some .ret := by
          rw [hrc]
          show (if go k = true then rec .ready none else rec .done (some .ret)).pending = _
          rw [if_neg (by rw [hk0]; decide), hrec]
        rw [hp] at hend
        exact ⟨some .ret, _, hend, hstop k (by omega) hpre hk0 _ hfw hc3 hls hk3⟩
/-! ### A round, by states -/
section
variable {P : Program} {E : Env} {K : Exit → St → Prop} {T : Tab}
/-- Blocks with constants in their cells. -/
def BoxAt (w : World) : List Nat → List (TypeId × List Value) → Prop
  | [], [] => True
  | k :: T, b :: r => w.heap[k]? = some (.cells b.2.toArray b.1 (0, 0)) ∧ BoxAt w T r
  | _, _ => False
theorem BoxAt.steady : ∀ (T : List Nat) (bs : List (TypeId × List Value)), Steady (fun k => k ∈ T) (fun w => BoxAt w T bs)
  | [], [] => fun _ _ _ _ _ => trivial
  | [], _ :: _ => fun _ _ _ _ h => h.elim
  | _ :: _, [] => fun _ _ _ _ h => h.elim
  | k :: T, b :: r => fun w1 w2 h1 h2 h => ⟨(h1 k (by simp)).trans h.1, BoxAt.steady T r w1 w2 (fun j hj => h1 j (by simp [hj])) h2 h.2⟩
theorem borT_in {k : Nat} : ∀ {T : List Nat} {n j : Nat}, T[j]? = some k → (n + j, k) ∈ borT n T
  | [], n, j, h => by simp at h
  | g :: r, n, 0, h => by
    have : g = k := by simpa using h
    rw [this]; exact List.mem_cons_self
  | g :: r, n, j + 1, h => by
    have := borT_in (T := r) (n := n + 1) (j := j) (by simpa using h)
    rw [show n + (j + 1) = n + 1 + j by omega]
    exact List.mem_cons_of_mem _ this
theorem borT_at {k y : Nat} : ∀ {T : List Nat} {n : Nat}, (y, k) ∈ borT n T → ∃ j, y = n + j ∧ T[j]? = some k
  | [], n, h => by cases h
  | g :: r, n, h => by
    rcases List.mem_cons.1 h with h | h
    · injection h with h1 h2
      exact ⟨0, h1, by rw [h2]; rfl⟩
    · obtain ⟨j, h1, h2⟩ := borT_at (T := r) h
      exact ⟨j + 1, by omega, by simpa using h2⟩
def boxB (b : TypeId × List Value) : Blk := .var b.1 (b.2.map .k)
end
end Go.Sx
/- The symbolic executor, part BB: behind a range; the call of yield with constants in a drawn region. Generic over P. -/
set_option linter.unusedVariables false
set_option linter.unusedSimpArgs false
namespace Go.Sx
open Go.RowKit
section
variable {P : Program} {E : Env} {K : Exit → St → Prop} {T : Tab}
/-! ### A memory that tells of every name (but of xs) -/
def totM (xs : List Nat) (m : Mem) : Mem := fun y => match m y with
  | some b => some b
  | none => bif xs.any (Nat.beq y) then none else some (.ro 0 0 fun _ => [])
theorem totM_some (xs : List Nat) (m : Mem) (y : Nat) (h : y ∉ xs) : (totM xs m y).isSome = true := by
  unfold totM
  cases m y with
  | some b => rfl
  | none =>
    have : xs.any (Nat.beq y) = false := by
      rw [List.any_eq_false]
      intro x hx e
      exact h (Nat.eq_of_beq_eq_true e ▸ hx)
    simp [this]
theorem totM_mono (xs : List Nat) (m : Mem) : ∀ z, (m z).isSome = true → (totM xs m z).isSome = true := by
  intro z hz
  unfold totM
  cases h : m z with
  | some b => rfl
  | none => rw [h] at hz; cases hz
theorem SatM.tot {ρ : Val} {m : Mem} {w : World} (xs : List Nat) (h : SatM E ρ m w) : SatM E ρ (totM xs m) w := by
  refine h.swap h.fr (Nat.le_refl _) (totM_mono xs m) fun z b hz => ?_
  unfold totM at hz
  cases hm : m z with
  | some c => rw [hm] at hz; exact .inl ⟨hz, fun _ _ _ => rfl⟩
  | none =>
    rw [hm] at hz
    cases hx : xs.any (Nat.beq z) with
    | true => rw [hx] at hz; cases hz
    | false =>
      rw [hx] at hz
      injection hz with hz
      exact .inr (.inr ⟨0, _, hz.symm⟩)
theorem G.tot {c : Code} {t : Nat → TV} {m : Mem} (xs : List Nat) (k : G P E K c ⟨t, totM xs m⟩) : G P E K c ⟨t, m⟩ :=
  G.sem fun ρ a w hs => ⟨ρ, _, hs.remem0 (hs.mem.tot xs) (totM_mono xs m), k⟩
theorem atR_some {D : Nat → Bool} {x : Nat} {recs : List DR} {b0 : Option Blk} (h0 : b0.isSome = true) : (atR D (gM x) recs b0).isSome = true := by
  induction recs with
  | nil => exact h0
  | cons r l ih =>
    simp only [atR]
    split
    · split
      · rename_i hg
        unfold gM at hg
        split at hg
        · injection hg with hg; subst hg; rfl
        · cases hg
      · exact ih
    · exact ih
/-- Nothing is open at the i-th operation. -/
def shutAt (cls : List Nat) (i n : Nat) : Bool := (List.range n).all fun k => !inU cls i k
theorem memU_shut {f : Nat → Oper → Bool} {cls : List Nat} {i : Nat} : ∀ (l : List Oper) (k : Nat), (∀ j, k ≤ j → j < k + l.length → inU cls i j = false) → memU f cls i k l = false
  | [], _, _ => rfl
  | o :: r, k, h => by
    rw [memU, h k (Nat.le_refl _) (by simp), memU_shut r (k + 1) fun j h1 h2 => h j (by omega) (by simp only [List.length_cons]; omega)]
    rfl
theorem canF_tot {l : List Oper} {cls : List Nat} {X : List (Nat × Nat)} {base : St} {i : Nat} {recs : List DR} (xs : List Nat) (hi : recs.length = i) (hb : ∀ y, y ∉ xs → (base.m y).isSome = true) (hx : ∀ y ∈ xs, ((canF l cls X base i recs).m y).isSome = true) (hs : shutAt cls i l.length = true) : ∀ y, ((canF l cls X base i recs).m y).isSome = true := by
  intro y
  by_cases hyx : y ∈ xs
  · exact hx y hyx
  rw [canF_eq hi]
  simp only [can]
  rw [memU_shut l 0 fun j _ hj => by
    unfold shutAt at hs
    rw [List.all_eq_true] at hs
    have := hs j (List.mem_range.2 (by omega))
    rw [hi]
    simpa using this]
  exact atR_some (hb y hyx)
theorem totM_calm {xs kill L : List Nat} {xJ : Nat} {ml : List (Nat × Blk)} (h : allCalm L xJ ml) : ∀ y b, totM xs (lkM ml) y = some b → y = xJ ∨ y ∈ kill ∨ (∃ sz el, b = .ro sz 0 el) ∨ (y < 1000 ∧ Blk.calm L 0 b) := by
  intro y b hb
  by_cases e : y = xJ
  · exact .inl e
  unfold totM at hb
  cases hm : lkM ml y with
  | some c =>
    rw [hm] at hb
    injection hb with hb
    subst hb
    exact .inr (.inr (.inr (calm_of h y c e hm)))
  | none =>
    rw [hm] at hb
    cases hx : xs.any (Nat.beq y) with
    | true => rw [hx] at hb; cases hb
    | false =>
      rw [hx] at hb
      injection hb with hb
      exact .inr (.inr (.inl ⟨0, _, hb.symm⟩))
/-! ### Yield -/
def argsK (f : Operand → TV) : List Operand → List Value → Prop
  | [], [] => True
  | z :: r, v :: s => f z = toTV v ∧ argsK f r s
  | _, _ => False
theorem toTV_val {ρ : Val} {m : Mem} {x v : Value} (h : (toTV v).rep ρ m x) : x = v := by
  have := toTV_rep ρ m v
  cases v <;> exact h.2.trans this.2.symm
theorem yields_run {ρ : Val} {st : St} {a : Act} {w : World} (hs : Sat E ρ st a w) {o : Oper} {c : Call} {y : Operand} {zs : List Operand} {l : Nat} {vs : List Value} (hop : o.op = .call c) (hc : c.callee = .value y) (ha : c.args = zs.toArray) (hy : evT st.t y = .v (.c (.k (.func (.yield l) #[] #[])))) (hz : argsK (fun z => evT st.t z) zs vs) :
    (execOp a.eval o).run P w = (Instr.yield l vs.toArray).run P w := by
  have h1 := hs.eval y
  rw [show st.ev y = _ from hy] at h1
  have h1' : a.eval y = .func (.yield l) #[] #[] := h1.2
  have h2 : zs.map a.eval = vs := by
    clear ha
    induction zs generalizing vs with
    | nil => cases vs with
      | nil => rfl
      | cons _ _ => exact hz.elim
    | cons z r ih => cases vs with
      | nil => exact hz.elim
      | cons v s =>
        have hz1 := hs.eval z
        rw [show st.ev z = _ from hz.1] at hz1
        have := (toTV_rep ρ st.m v)
        simp only [List.map_cons]
        rw [ih hz.2]
        congr 1
        exact toTV_val hz1
  simp only [execOp, hop, resolve, hc, ha, Sem.run_bind, Deferred.ofValue, h1', Sem.run_pure, Result.andThen_ok, invoke]
  simp [h2]
theorem SatM.yieldedC {ρ : Val} {m : Mem} {w w' : World} (h : SatM E ρ m w) {L : List Nat} {xJ : Nat} {Z : Nat → Prop} {R R' : World → Prop} (kill : List Nat) (hE : E.bor = borT 1000 L) (hL : ∀ k ∈ L, k < E.w0.heap.size) (hfr : Fr w L w') (hx : m xJ = some (.say Z R))
    (hcalm : ∀ y b, y ≠ xJ → y ∉ kill → m y = some b → (∃ sz el, b = .ro sz 0 el) ∨ (y < 1000 ∧ Blk.calm L 0 b)) (hr : R' w') (hst : Steady Z R') (hZ : ∀ k, Z k → k ∈ L) :
    SatM E ρ (upm m ((xJ, .say Z R') :: kill.map fun y => (y, .ro 0 0 fun _ => []))) w' := by
  have hbs : E.bor.map (·.2) = L := by rw [hE, borT_snd]
  have hmg : ∀ (l : List Nat) z b, mget (l.map fun y => (y, Blk.ro 0 0 fun _ => [])) z = some b → z ∈ l ∧ b = .ro 0 0 fun _ => [] := by
    intro l
    induction l with
    | nil => intro z b h; cases h
    | cons y r ih =>
      intro z b h
      simp only [List.map_cons, mget] at h
      cases e : Nat.beq z y with
      | true => rw [e] at h; simp at h; exact ⟨by rw [Nat.eq_of_beq_eq_true e]; exact List.mem_cons_self, h.symm⟩
      | false =>
        rw [e] at h
        have := ih z b h
        exact ⟨List.mem_cons_of_mem _ this.1, this.2⟩
  have hmn : ∀ (l : List Nat) z, mget (l.map fun y => (y, Blk.ro 0 0 fun _ => [])) z = none → z ∉ l := by
    intro l
    induction l with
    | nil => intro z _ h; cases h
    | cons y r ih =>
      intro z h hz
      simp only [List.map_cons, mget] at h
      cases e : Nat.beq z y with
      | true => rw [e] at h; cases h
      | false =>
        rw [e] at h
        rcases List.mem_cons.1 hz with rfl | hz
        · simp at e
        · exact ih z h hz
  have hsz : ∀ z, (m z).isSome = true → (upm m ((xJ, .say Z R') :: kill.map fun y => (y, .ro 0 0 fun _ => [])) z).isSome = true := fun z hz => by
    unfold upm
    split
    · rfl
    · exact hz
  refine h.swap (h.fr.trans' hfr fun k _ hk => by rw [hbs]; exact hk) hfr.size hsz fun z b hz => ?_
  unfold upm at hz
  simp only [mget] at hz
  cases e : Nat.beq z xJ with
  | true =>
    rw [e] at hz
    simp only [cond_true] at hz
    injection hz with hz
    subst hz
    have e := Nat.eq_of_beq_eq_true e
    subst e
    refine .inr (.inl ⟨_, _, rfl, hr, fun k hk => ?_, hst, fun y c hy hc ho hk => ?_⟩)
    · have := hL k (hZ k hk); have := h.fr.size; have := hfr.size; omega
    · have hc' : m y = some c := by
        unfold upm at hc
        simp only [mget] at hc
        have ey : Nat.beq y z = false := by
          cases h : Nat.beq y z with
          | true => exact absurd (Nat.eq_of_beq_eq_true h) hy
          | false => rfl
        rw [ey] at hc
        simp only [cond_false] at hc
        split at hc
        · rename_i b hb
          have := (hmg _ _ _ hb).2
          injection hc with hc
          rw [← hc, this] at ho
          exact ho.elim
        · exact hc
      exact h.ne y z c _ hc' hx ho trivial hy hk
  | false =>
    rw [e] at hz
    simp only [cond_false] at hz
    have hzx : z ≠ xJ := fun e' => by rw [e'] at e; simp at e
    split at hz
    · rename_i b' hb
      have := (hmg _ _ _ hb).2
      injection hz with hz
      exact .inr (.inr ⟨0, _, by rw [← hz, this]⟩)
    · rename_i hb
      refine .inl ⟨hz, fun k hl hk => hfr.block k (h.lt' hz hl hk) fun hkL => ?_⟩
      rcases hcalm z b hzx (hmn _ _ hb) hz with ⟨sz, el, rfl⟩ | ⟨hb1, hb2⟩
      · exact absurd (show 0 < 0 from hl) (by omega)
      · cases b with
        | say S R => exact hb2 k hkL hk
        | ro sz n el => exact absurd (show 0 < n from hl) (by rw [show n = 0 from hb2]; omega)
        | _ =>
          have hp := h.ownGe hz trivial
          rw [show k = (ρ z).1 from hk] at hkL
          rcases hp with hp | hp
          · have := hL _ hkL; omega
          · rw [hE] at hp
            have := (borT_mem hp).1
            simp only at this
            omega
/-- A call of yield for the i-th constants, where nothing else is open. -/
theorem Steps.yieldC {ops : Array Oper} {o : Oper} {c : Call} {y : Operand} {zs : List Operand} {l n : Nat} {val : Nat → Array Value} {go : Nat → Bool} {J : Nat → World → Prop} {vs : List Value} {C : St} {L : List Nat} (xJ i : Nat) (kill : List Nat)
    (hR : YieldsC P l L n val go J E.w0) (hJ : ∀ i, Steady (fun k => k ∈ L) (J i)) (hi : i < n) (hgo : ∀ j, j < i → go j = true) (hE : E.bor = borT 1000 L) (hL : ∀ k ∈ L, k < E.w0.heap.size) (hx : C.m xJ = some (.say (fun k => k ∈ L) (J i)))
    (hg : o.guard = none) (hop : o.op = .call c) (hc : c.callee = .value y) (ha : c.args = zs.toArray) (hy : evT C.t y = .v (.c (.k (.func (.yield l) #[] #[])))) (hz : argsK (fun z => evT C.t z) zs vs) (hv : val i = vs.toArray) (hd : dstOk E.N o.dst = true)
    (htot : ∀ y, (C.m y).isSome = true) (hcalm : ∀ y b, y ≠ xJ → y ∉ kill → C.m y = some b → (∃ sz el, b = .ro sz 0 el) ∨ (y < 1000 ∧ Blk.calm L 0 b)) :
    Steps P E ops o C (toTV (.bool (go i))) ((xJ, .say (fun k => k ∈ L) (J (i + 1))) :: kill.map fun y => (y, .ro 0 0 fun _ => [])) := by
  intro st hle ρ a w hs Kc Q hk
  have hm : st.m = C.m := by
    funext z
    rcases hle.m z with h | h
    · have := htot z; rw [h] at this; cases this
    · exact h
  have hs' := hs.weakT hle.t
  rw [if_pos (by simp [Region.wanted, hg])]
  refine .inr ?_
  have hrun := yields_run (P := P) hs' hop hc ha hy hz
  rw [← hm] at hx hcalm
  obtain ⟨j1, j2, j3⟩ := hs.mem.ok _ _ hx
  have hbs : E.bor.map (·.2) = L := by rw [hE, borT_snd]
  have hfr := hs.mem.fr
  rw [hbs] at hfr
  obtain ⟨fn, tmps, assign, body, h1, h2⟩ := hR i w hi hgo hfr j1
  rw [hv] at h1
  refine ⟨l, fn, tmps, assign, body, w, hrun.trans h1, RoundIn.mono h2 ?_⟩
  rintro e W' ⟨rfl, hfr', hj⟩
  obtain ⟨t1, m1⟩ := st
  have hM := hs.mem.yieldedC kill hE hL hfr' hx hcalm hj (hJ _) (fun k hk => hk)
  refine ⟨_, rfl, hk ρ _ W' ?_⟩
  exact (hs.remem0 hM fun z hz => by
    unfold upm
    split
    · rfl
    · exact hz).putT (dstOk_lt hd) (toTV_rep _ _ _)
end
end Go.Sx
/- Top: the strips of heights, the staves of a profile. -/
set_option linter.unusedVariables false
set_option linter.unusedSimpArgs false
set_option maxRecDepth 8000
set_option maxHeartbeats 1000000
namespace Go.Proofs.YtphipfmidfoflaaGreat
open Go.Sx Go.RowKit
def Pt (b : Nat) : Value := .pointer (some ⟨b, 0, none⟩)
/-- A closure over one box. -/
def Box1 (f : FuncId) (u : Value) (tx : TypeId) (w w' : World) (e : Ending) : Prop := ∃ g : Nat, e = .returned (.func (.func f) #[] #[Pt g]) ∧ Below w.heap.size w w' ∧ w'.heap[g]? = some (.cells #[u] tx (0, 0)) ∧ w.heap.size ≤ g ∧ g < w'.heap.size
theorem retBox1 {P : Program} {T : Tab} (hT : Tab.fine P T) {w : World} {N : Nat} {fn : Func} {st : St} {f x : Nat} {u : Value} {tx : TypeId} {r : ResultVar} (hr : fn.results.toList = [r]) (h1 : resOne T st r = .v (.c (.fn f [.own x 0]))) (hx : st.m x = some (.var tx [.k u])) :
    retK P ⟨w, [], N, none, []⟩ fn (fun e w' => Box1 f u tx w w' e) .ret st := by
  refine ⟨.inl rfl, fun ρ a w' hs => ?_⟩
  obtain ⟨h6, _⟩ := resOne_run hT hs h1
  have k1 := hs.mem.ok x _ hx
  have p1 : w.heap.size ≤ (ρ x).1 := by
    rcases hs.mem.ownGe hx trivial with h | h
    · exact h
    · cases h
  refine ⟨_, results_one hr h6, (ρ x).1, ?_, hs.mem.fr.toBelow, ?_, p1, hs.mem.lt hx trivial⟩
  · simp [AV.conc, AC.conc, Cap.conc, Pt, k1.1]
  · simpa [AC.conc] using k1.2.2.1
def elP (l : List (Int × Int)) (i : Nat) : List Value := [I (l.getD i (0, 0)).1, I (l.getD i (0, 0)).2]

theorem strips_any (A : Option Addr) (c : Nat) (l : List Int) (w : World) : Calls Tryz.prog 114 #[.slice A l.length c] w fun e w' => Box1 133 (.slice A l.length c) 51 w w' e := by
  refine enterSay [] [.c (.k (.slice A l.length c))] [] Tryz.func114 rfl 4 Tryz.ntmps114 rfl rfl ⟨trivial, trivial⟩ trivial ?_
  refine G.seqR tfine rfl trivial ?_
  refine G.seqR tfine rfl trivial ?_
  exact G.ret (retBox1 tfine rfl rfl rfl)
theorem strips_iter (l : List Int) (A : Option Addr) (c b : Nat) (w : World) (h1 : w.heap[b]? = some (.cells #[.slice A l.length c] 51 (0, 0))) (h2 : RdRow w A l.length 1 (elI l)) (hn : l.length ≤ 100000) :
    IterC Tryz.prog (.func (.func 133) #[] #[Pt b]) (fun k => k = b ∨ sb (.slice A l.length c) k) (l.length - 1) (fun i => #[I (l.getD i 0), I (l.getD (i + 1) 0)]) w := by
  refine ⟨133, #[Pt b], rfl, fun args w => Tryz.call133 args w, ?_⟩
  intro lp L go J W hrd hsz hL hJs hR hJ
  rw [show (#[.func (.yield lp) #[] #[]] ++ #[Pt b] : Array Value) = #[.func (.yield lp) #[] #[], Pt b] from by simp]
  have e1 : W.heap[b]? = some (.cells #[.slice A l.length c] 51 (0, 0)) := (hrd b (.inl rfl)).trans h1
  have e2 : RdRow W A l.length 1 (elI l) := steady_row (cap := c) w W (fun k hk => hrd k (.inr hk)) hsz h2
  have hLW : ∀ k ∈ L, k < W.heap.size := fun k hk => (hL k hk).1
  obtain ⟨S1, hS1⟩ : ∃ S1 : Nat → Prop, S1 = fun k => k = b ∨ sb (.slice A l.length c) k := ⟨_, rfl⟩
  obtain ⟨R1, hR1⟩ : ∃ R1 : World → Prop, R1 = fun w => w.heap[b]? = some (.cells #[.slice A l.length c] 51 (0, 0)) ∧ RdRow w A l.length 1 (elI l) := ⟨_, rfl⟩
  have hst1 : Steady S1 R1 := by rw [hS1, hR1]; exact (Steady.heap (.inl rfl)).and (steady_row.mono fun k hk => .inr hk)
  have hlt1 : ∀ k, S1 k → k < W.heap.size := by
    rw [hS1]
    rintro k (rfl | hk)
    · exact lt_of_heap e1
    · exact sb_lt e2 k hk
  have hSL : ∀ k ∈ L, ¬ S1 k := by rw [hS1]; exact fun k hk => (hL k hk).2
  have hbK : ∀ w, R1 w → w.heap[b]? = some (.cells #[.slice A l.length c] 51 (0, 0)) := fun w h => by rw [hR1] at h; exact h.1
  have hrK : ∀ w, R1 w → RdRow w A l.length 1 (elI l) := fun w h => by rw [hR1] at h; exact h.2
  have hsK : ∀ k, sb (.slice A l.length c) k → S1 k := fun k hk => by rw [hS1]; exact .inr hk
  have hR0 : R1 W := by rw [hR1]; exact ⟨e1, e2⟩
  clear hS1 hR1
  refine enterSay L [.c (.k (.func (.yield lp) #[] #[])), .c (.k (Pt b))] [(1, .say S1 R1), (2, .say (fun k => k ∈ L) (J 0))] Tryz.func133 rfl 22 Tryz.ntmps133 rfl rfl ⟨trivial, trivial, trivial⟩
    ⟨⟨hR0, hlt1, hst1⟩, ⟨fun h => h.elim, fun h => h.elim, trivial⟩, ⟨hJ, hLW, hJs 0⟩, trivial, trivial⟩ ?_
  refine G.seqR tfine rfl trivial ?_
  refine G.block (G.loop (fun i : Nat => St.of [(0, .v (.c (.k (.func (.yield lp) #[] #[])))), (1, .v (.c (.k (Pt b)))), (3, .v (.c (.k (I (i + 1 : Nat)))))] [(1, .say S1 R1), (2, .say (fun k => k ∈ L) (J i))])
    (fun i => i ≤ l.length - 1 ∧ ∀ j, j < i → go j = true) (fun i => l.length - 1 - i) 0 ⟨Nat.zero_le _, fun j hj => absurd hj (Nat.not_lt_zero j)⟩ (St.le_of rfl ⟨⟨_, rfl, Blk.le_refl _⟩, ⟨_, rfl, Blk.le_refl _⟩, trivial⟩ ⟨rfl, rfl, rfl, trivial⟩) ?_)
  rintro i ⟨hi, hgo⟩
  refine G.seq ?_
  refine G.seqC tfine rfl trivial ?_
  refine GO.steps (Steps.loadK tfine 1 [.slice A l.length c] rfl rfl rfl rfl rfl hbK rfl rfl) ?_
  refine GO.fin tfine rfl trivial ?_
  refine G.cond (b := decide (((i + 1 : Nat) : Int) < (l.length : Int))) rfl (fun h3 => ?_) (fun h3 => ?_)
  rotate_left
  · have h3 := of_decide_eq_false h3
    refine G.exit ?_
    refine ⟨.inr rfl, fun ρ a w' hs => ⟨_, results_run tfine hs rfl, ⟨_, rfl⟩, ?_, i, ⟨hi, .inl ⟨by omega, fun j hj => hgo j (by omega)⟩⟩, (hs.mem.ok 2 _ rfl).1⟩⟩
    have := hs.mem.fr
    simp only [borT_snd] at this
    exact this
  have h3 := of_decide_eq_true h3
  have hlt : i + 1 < l.length := by omega
  refine G.skip ?_
  refine G.seq ?_
  refine G.block ?_
  have hw : IntKind.i64.wrap ((i : Nat) : Int) = (i : Int) := IntWalk.i64_in _ (by omega)
  have hw1 : IntKind.i64.wrap (((i + 1 : Nat) : Int) - 1) = (i : Int) := by rw [show (((i + 1 : Nat) : Int) - 1) = (i : Int) by omega]; exact hw
  refine G.tot [701, 702] ?_
  refine G.seqDraw hmix [0, 0, 0, 4, 14, 30, 0, 0, 192, 448, 1023, 2047] [(1, 701), (6, 702), (10, 2), (10, 701), (10, 702)] rfl rfl rfl ?_
  refine GD.more tfine 0 rfl rfl trivial ?_
  refine GD.stepF 1 rfl (Steps.loadOpen tfine 1 701 A l.length c 1 (elI l) rfl rfl rfl rfl rfl rfl hbK rfl rfl rfl hrK hsK rfl rfl) rfl ?_
  refine GD.more tfine 2 rfl rfl ?_ ?_
  · simp only [AllP, hw1]
    and_intros <;> first | trivial | omega
  refine GD.stepF 6 rfl (Steps.loadOpen tfine 1 702 A l.length c 1 (elI l) rfl rfl rfl rfl rfl rfl hbK rfl rfl rfl hrK hsK rfl rfl) rfl ?_
  refine GD.more tfine 7 rfl rfl ?_ ?_
  · first | trivial | (simp [AllP, condB]; done) | (simp only [AllP]; and_intros <;> first | trivial | decide | omega) | (simp [AllP, condB]; intros; and_intros <;> first | assumption | omega) | (simp [AllP, condB]; intros; simp_all; done)
  have htq : ∀ {recs : List DR} {l0 : List Oper} {cls : List Nat} {X : List (Nat × Nat)} {t0 : Nat → TV}, recs.length = 10 → shutAt cls 10 l0.length = true → (∀ y ∈ [701, 702], ((canF l0 cls X ⟨t0, totM [701, 702] (St.of [] [(1, .say S1 R1), (2, .say (fun k => k ∈ L) (J i))]).m⟩ 10 recs).m y).isSome = true) → ∀ y, ((canF l0 cls X ⟨t0, totM [701, 702] (St.of [] [(1, .say S1 R1), (2, .say (fun k => k ∈ L) (J i))]).m⟩ 10 recs).m y).isSome = true :=
    fun h1 h2 h3 => canF_tot [701, 702] h1 (fun y hy => totM_some _ _ y hy) h3 h2
  refine GD.stepF 10 rfl (Steps.yieldC (vs := [I (l.getD (IntKind.i64.wrap (((i + 1 : Nat) : Int) - 1)).toNat 0), I (l.getD (((i + 1 : Nat) : Int)).toNat 0)]) 2 i [701, 702] hR hJs (by omega) hgo rfl hLW rfl rfl rfl rfl rfl rfl ⟨rfl, rfl, trivial⟩ (by rw [hw1]; rfl) rfl (htq rfl rfl (by intro y hy; rcases List.mem_cons.1 hy with rfl | hy; exact rfl; rcases List.mem_cons.1 hy with rfl | hy; exact rfl; cases hy)) ?_) rfl ?_
  · intro y b0 hy hk hb
    have hq : y = 2 ∨ y ∈ [701, 702] ∨ (∃ sz el, b0 = .ro sz 0 el) ∨ (y < 1000 ∧ Blk.calm L 0 b0) := by
      have hb2 := hb
      refine canF_all (Q := fun y b => y = 2 ∨ y ∈ [701, 702] ∨ (∃ sz el, b = .ro sz 0 el) ∨ (y < 1000 ∧ Blk.calm L 0 b)) (i := 10) ?_ ?_ ?_ y b0 hb2
      · rfl
      · intro y b h
        have h : totM [701, 702] (lkM [(1, .say S1 R1), (2, .say (fun k => k ∈ L) (J i))]) y = some b := h
        exact totM_calm (ml := [(1, .say S1 R1), (2, .say (fun k => k ∈ L) (J i))]) ⟨.inr ⟨(by show (1 : Nat) < 1000; decide), hSL⟩, .inl rfl, trivial⟩ y b h
      · simp [allRc, allMs]
    rcases hq with h | h | h
    · exact absurd h hy
    · exact absurd h hk
    · exact h
  refine GD.fin tfine 11 rfl rfl trivial ?_
  refine G.cond (b := !(go i)) rfl (fun h4 => ?_) (fun h4 => ?_)
  · have h4 : go i = false := by simpa using h4
    refine G.ret ⟨.inl rfl, fun ρ a w' hs => ⟨_, results_run tfine hs rfl, ⟨_, rfl⟩, ?_, i + 1, ⟨by omega, .inr ⟨i, rfl, hgo, h4⟩⟩, (hs.mem.ok 2 _ rfl).1⟩⟩
    have := hs.mem.fr
    simp only [borT_snd] at this
    exact this
  have h4 : go i = true := by simpa using h4
  refine G.skip ?_
  refine G.reg tfine rfl trivial ?_
  refine ⟨i + 1, ⟨by omega, fun j hj => ?_⟩, (by show l.length - 1 - (i + 1) < l.length - 1 - i; omega), ?_⟩
  · rcases Nat.lt_or_ge j i with h | h
    · exact hgo j h
    · rw [show j = i by omega]; exact h4
  · exact St.le_of rfl ⟨⟨_, rfl, Blk.le_refl _⟩, ⟨_, rfl, Blk.le_refl _⟩, trivial⟩ ⟨rfl, rfl, by simp [up, I]; rw [IntWalk.i64_in _ (by omega)], trivial⟩

theorem staves_any (A : Option Addr) (c : Nat) (l : List (Int × Int)) (w : World) : Calls Tryz.prog 89 #[.slice A l.length c] w fun e w' => Box1 111 (.slice A l.length c) 22 w w' e := by
  refine enterSay [] [.c (.k (.slice A l.length c))] [] Tryz.func89 rfl 4 Tryz.ntmps89 rfl rfl ⟨trivial, trivial⟩ trivial ?_
  refine G.seqR tfine rfl trivial ?_
  refine G.seqR tfine rfl trivial ?_
  exact G.ret (retBox1 tfine rfl rfl rfl)
theorem staves_iter (l : List (Int × Int)) (A : Option Addr) (c b : Nat) (w : World) (h1 : w.heap[b]? = some (.cells #[.slice A l.length c] 22 (0, 0))) (h2 : RdRow w A l.length 2 (elP l)) (hn : l.length ≤ 100000) :
    IterC Tryz.prog (.func (.func 111) #[] #[Pt b]) (fun k => k = b ∨ sb (.slice A l.length c) k) (l.length - 1) (fun i => #[.agg #[I (l.getD i (0, 0)).1, I (l.getD i (0, 0)).2], .agg #[I (l.getD (i + 1) (0, 0)).1, I (l.getD (i + 1) (0, 0)).2]]) w := by
  refine ⟨111, #[Pt b], rfl, fun args w => Tryz.call111 args w, ?_⟩
  intro lp L go J W hrd hsz hL hJs hR hJ
  rw [show (#[.func (.yield lp) #[] #[]] ++ #[Pt b] : Array Value) = #[.func (.yield lp) #[] #[], Pt b] from by simp]
  have e1 : W.heap[b]? = some (.cells #[.slice A l.length c] 22 (0, 0)) := (hrd b (.inl rfl)).trans h1
  have e2 : RdRow W A l.length 2 (elP l) := steady_row (cap := c) w W (fun k hk => hrd k (.inr hk)) hsz h2
  have hLW : ∀ k ∈ L, k < W.heap.size := fun k hk => (hL k hk).1
  obtain ⟨S1, hS1⟩ : ∃ S1 : Nat → Prop, S1 = fun k => k = b ∨ sb (.slice A l.length c) k := ⟨_, rfl⟩
  obtain ⟨R1, hR1⟩ : ∃ R1 : World → Prop, R1 = fun w => w.heap[b]? = some (.cells #[.slice A l.length c] 22 (0, 0)) ∧ RdRow w A l.length 2 (elP l) := ⟨_, rfl⟩
  have hst1 : Steady S1 R1 := by rw [hS1, hR1]; exact (Steady.heap (.inl rfl)).and (steady_row.mono fun k hk => .inr hk)
  have hlt1 : ∀ k, S1 k → k < W.heap.size := by
    rw [hS1]
    rintro k (rfl | hk)
    · exact lt_of_heap e1
    · exact sb_lt e2 k hk
  have hSL : ∀ k ∈ L, ¬ S1 k := by rw [hS1]; exact fun k hk => (hL k hk).2
  have hbK : ∀ w, R1 w → w.heap[b]? = some (.cells #[.slice A l.length c] 22 (0, 0)) := fun w h => by rw [hR1] at h; exact h.1
  have hrK : ∀ w, R1 w → RdRow w A l.length 2 (elP l) := fun w h => by rw [hR1] at h; exact h.2
  have hsK : ∀ k, sb (.slice A l.length c) k → S1 k := fun k hk => by rw [hS1]; exact .inr hk
  have hR0 : R1 W := by rw [hR1]; exact ⟨e1, e2⟩
  clear hS1 hR1
  refine enterSay L [.c (.k (.func (.yield lp) #[] #[])), .c (.k (Pt b))] [(1, .say S1 R1), (2, .say (fun k => k ∈ L) (J 0))] Tryz.func111 rfl 22 Tryz.ntmps111 rfl rfl ⟨trivial, trivial, trivial⟩
    ⟨⟨hR0, hlt1, hst1⟩, ⟨fun h => h.elim, fun h => h.elim, trivial⟩, ⟨hJ, hLW, hJs 0⟩, trivial, trivial⟩ ?_
  refine G.seqR tfine rfl trivial ?_
  refine G.block (G.loop (fun i : Nat => St.of [(0, .v (.c (.k (.func (.yield lp) #[] #[])))), (1, .v (.c (.k (Pt b)))), (3, .v (.c (.k (I (i + 1 : Nat)))))] [(1, .say S1 R1), (2, .say (fun k => k ∈ L) (J i))])
    (fun i => i ≤ l.length - 1 ∧ ∀ j, j < i → go j = true) (fun i => l.length - 1 - i) 0 ⟨Nat.zero_le _, fun j hj => absurd hj (Nat.not_lt_zero j)⟩ (St.le_of rfl ⟨⟨_, rfl, Blk.le_refl _⟩, ⟨_, rfl, Blk.le_refl _⟩, trivial⟩ ⟨rfl, rfl, rfl, trivial⟩) ?_)
  rintro i ⟨hi, hgo⟩
  refine G.seq ?_
  refine G.seqC tfine rfl trivial ?_
  refine GO.steps (Steps.loadK tfine 1 [.slice A l.length c] rfl rfl rfl rfl rfl hbK rfl rfl) ?_
  refine GO.fin tfine rfl trivial ?_
  refine G.cond (b := decide (((i + 1 : Nat) : Int) < (l.length : Int))) rfl (fun h3 => ?_) (fun h3 => ?_)
  rotate_left
  · have h3 := of_decide_eq_false h3
    refine G.exit ?_
    refine ⟨.inr rfl, fun ρ a w' hs => ⟨_, results_run tfine hs rfl, ⟨_, rfl⟩, ?_, i, ⟨hi, .inl ⟨by omega, fun j hj => hgo j (by omega)⟩⟩, (hs.mem.ok 2 _ rfl).1⟩⟩
    have := hs.mem.fr
    simp only [borT_snd] at this
    exact this
  have h3 := of_decide_eq_true h3
  have hlt : i + 1 < l.length := by omega
  refine G.skip ?_
  refine G.seq ?_
  refine G.block ?_
  have hw : IntKind.i64.wrap ((i : Nat) : Int) = (i : Int) := IntWalk.i64_in _ (by omega)
  have hw1 : IntKind.i64.wrap (((i + 1 : Nat) : Int) - 1) = (i : Int) := by rw [show (((i + 1 : Nat) : Int) - 1) = (i : Int) by omega]; exact hw
  refine G.tot [701, 702] ?_
  refine G.seqDraw hmix [0, 0, 0, 4, 14, 30, 0, 0, 192, 448, 1023, 2047] [(1, 701), (6, 702), (10, 2), (10, 701), (10, 702)] rfl rfl rfl ?_
  refine GD.more tfine 0 rfl rfl trivial ?_
  refine GD.stepF 1 rfl (Steps.loadOpen tfine 1 701 A l.length c 2 (elP l) rfl rfl rfl rfl rfl rfl hbK rfl rfl rfl hrK hsK rfl rfl) rfl ?_
  refine GD.more tfine 2 rfl rfl ?_ ?_
  · simp only [AllP, hw1]
    and_intros <;> first | trivial | omega
  refine GD.stepF 6 rfl (Steps.loadOpen tfine 1 702 A l.length c 2 (elP l) rfl rfl rfl rfl rfl rfl hbK rfl rfl rfl hrK hsK rfl rfl) rfl ?_
  refine GD.more tfine 7 rfl rfl ?_ ?_
  · first | trivial | (simp [AllP, condB]; done) | (simp only [AllP]; and_intros <;> first | trivial | decide | omega) | (simp [AllP, condB]; intros; and_intros <;> first | assumption | omega) | (simp [AllP, condB]; intros; simp_all; done)
  have htq : ∀ {recs : List DR} {l0 : List Oper} {cls : List Nat} {X : List (Nat × Nat)} {t0 : Nat → TV}, recs.length = 10 → shutAt cls 10 l0.length = true → (∀ y ∈ [701, 702], ((canF l0 cls X ⟨t0, totM [701, 702] (St.of [] [(1, .say S1 R1), (2, .say (fun k => k ∈ L) (J i))]).m⟩ 10 recs).m y).isSome = true) → ∀ y, ((canF l0 cls X ⟨t0, totM [701, 702] (St.of [] [(1, .say S1 R1), (2, .say (fun k => k ∈ L) (J i))]).m⟩ 10 recs).m y).isSome = true :=
    fun h1 h2 h3 => canF_tot [701, 702] h1 (fun y hy => totM_some _ _ y hy) h3 h2
  refine GD.stepF 10 rfl (Steps.yieldC (vs := [.agg #[I (l.getD (IntKind.i64.wrap (((i + 1 : Nat) : Int) - 1)).toNat (0, 0)).1, I (l.getD (IntKind.i64.wrap (((i + 1 : Nat) : Int) - 1)).toNat (0, 0)).2], .agg #[I (l.getD (((i + 1 : Nat) : Int)).toNat (0, 0)).1, I (l.getD (((i + 1 : Nat) : Int)).toNat (0, 0)).2]]) 2 i [701, 702] hR hJs (by omega) hgo rfl hLW rfl rfl rfl rfl rfl rfl ⟨rfl, rfl, trivial⟩ (by rw [hw1]; rfl) rfl (htq rfl rfl (by intro y hy; rcases List.mem_cons.1 hy with rfl | hy; exact rfl; rcases List.mem_cons.1 hy with rfl | hy; exact rfl; cases hy)) ?_) rfl ?_
  · intro y b0 hy hk hb
    have hq : y = 2 ∨ y ∈ [701, 702] ∨ (∃ sz el, b0 = .ro sz 0 el) ∨ (y < 1000 ∧ Blk.calm L 0 b0) := by
      have hb2 := hb
      refine canF_all (Q := fun y b => y = 2 ∨ y ∈ [701, 702] ∨ (∃ sz el, b = .ro sz 0 el) ∨ (y < 1000 ∧ Blk.calm L 0 b)) (i := 10) ?_ ?_ ?_ y b0 hb2
      · rfl
      · intro y b h
        have h : totM [701, 702] (lkM [(1, .say S1 R1), (2, .say (fun k => k ∈ L) (J i))]) y = some b := h
        exact totM_calm (ml := [(1, .say S1 R1), (2, .say (fun k => k ∈ L) (J i))]) ⟨.inr ⟨(by show (1 : Nat) < 1000; decide), hSL⟩, .inl rfl, trivial⟩ y b h
      · simp [allRc, allMs]
    rcases hq with h | h | h
    · exact absurd h hy
    · exact absurd h hk
    · exact h
  refine GD.fin tfine 11 rfl rfl trivial ?_
  refine G.cond (b := !(go i)) rfl (fun h4 => ?_) (fun h4 => ?_)
  · have h4 : go i = false := by simpa using h4
    refine G.ret ⟨.inl rfl, fun ρ a w' hs => ⟨_, results_run tfine hs rfl, ⟨_, rfl⟩, ?_, i + 1, ⟨by omega, .inr ⟨i, rfl, hgo, h4⟩⟩, (hs.mem.ok 2 _ rfl).1⟩⟩
    have := hs.mem.fr
    simp only [borT_snd] at this
    exact this
  have h4 : go i = true := by simpa using h4
  refine G.skip ?_
  refine G.reg tfine rfl trivial ?_
  refine ⟨i + 1, ⟨by omega, fun j hj => ?_⟩, (by show l.length - 1 - (i + 1) < l.length - 1 - i; omega), ?_⟩
  · rcases Nat.lt_or_ge j i with h | h
    · exact hgo j h
    · rw [show j = i by omega]; exact h4
  · exact St.le_of rfl ⟨⟨_, rfl, Blk.le_refl _⟩, ⟨_, rfl, Blk.le_refl _⟩, trivial⟩ ⟨rfl, rfl, by simp [up, I]; rw [IntWalk.i64_in _ (by omega)], trivial⟩
end Go.Proofs.YtphipfmidfoflaaGreat
