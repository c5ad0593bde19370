/- The symbolic executor, part W: structs compared in regions that draw their order. Generic over P. -/
import Derived.Test.YtiicemgngccicaaSxV
set_option linter.unusedVariables false
set_option linter.unusedSimpArgs false
namespace Go.Sx
open Go.RowKit
section
variable {P : Program} {E : Env} {K : Exit → St → Prop} {T : Tab} {l : List Oper} {cls : List Nat} {X0 : List (Nat × Nat)} {base : St}
theorem GD.structEq {recs : List DR} {o : Oper} {rest : List Oper} {tt : Nat → TV} {m : Mem} {t t' : TypeId} {fs : Array Field} {y z : Operand} (neg : Bool) (X Y : List Value) (r : Bool) (hr : eqR neg X Y = r) (hc : CmpT P t fs) (i : Nat) (hi : recs.length = i) (hg : o.guard = none) (hop : o.op = .binOp (eqOp neg) t y z t')
    (hy : evT (canF l cls X0 base i recs).t y = .v (.agg (X.map .k))) (hz : evT (canF l cls X0 base i recs).t z = .v (.agg (Y.map .k))) (hd : dstOk E.N o.dst = true)
    (hx : fitL P fs.toList X Y = true) (k : GD P E K l cls X0 base (⟨o, .v (.c (.k (.bool r))), []⟩ :: recs) rest (Sx.putT tt o.dst (.v (.c (.k (.bool r))))) m) : GD P E K l cls X0 base recs (o :: rest) tt m := by
  subst hr
  rw [canF_eq hi] at hy hz
  exact GD.step (Steps.structEq neg X Y hg hop hy hz hd hc hx) rfl k
theorem GD.structEqG {recs : List DR} {o : Oper} {rest : List Oper} {tt : Nat → TV} {m : Mem} {t t' : TypeId} {fs : Array Field} {y z : Operand} {j : Nat} {want cb : Bool} (neg : Bool) (X Y : List Value) (r : Bool) (hr : eqR neg X Y = r) (hc : CmpT P t fs) (i : Nat) (hi : recs.length = i) (hg : o.guard = some (j, want)) (hb : guardB l.toArray (canF l cls X0 base i recs).t j want = some cb) (hop : o.op = .binOp (eqOp neg) t y z t')
    (hob : AllP (stripObs (canF l cls X0 base i recs).t j want cb (slotsOf o.op.operands.toList)))
    (hy : evG (canF l cls X0 base i recs).t j want (slotsOf o.op.operands.toList) y = .v (.agg (X.map .k))) (hz : evG (canF l cls X0 base i recs).t j want (slotsOf o.op.operands.toList) z = .v (.agg (Y.map .k))) (hd : dstOk E.N o.dst = true)
    (hx : fitL P fs.toList X Y = true) (k : GD P E K l cls X0 base (⟨o, .grd j want cb (.c (.k (.bool r))), []⟩ :: recs) rest (Sx.putT tt o.dst (.grd j want cb (.c (.k (.bool r))))) m) : GD P E K l cls X0 base recs (o :: rest) tt m := by
  subst hr
  rw [canF_eq hi] at hb hob hy hz
  exact GD.step (Steps.structEqG neg X Y hg hb hop hob hy hz hd hc hx) rfl k
end
end Go.Sx
