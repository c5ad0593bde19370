/- The symbolic executor, part D: the evaluation of one operation (evOp) and its soundness. Generic over P. -/
import Derived.Test.YtiicemgngccicaaSxC
set_option linter.unusedVariables false
set_option linter.unusedSimpArgs false
namespace Go.Sx
open Go.RowKit

/-- The table is right, and an array's zero is its element's, so many times. -/
structure Tab.fine (P : Program) (T : Tab) : Prop where
  ok : ∀ t d, T t = some d → TyOK P t d
  arr : ∀ t d n e, T t = some d → d.kind = .array n e → ∃ de, T e = some de ∧ d.zero = (List.replicate n de.zero).flatten

def AV.cells : AV → List AC
  | .c a => [a]
  | .agg l => l
def okP (x i sz off : Nat) (m : Nat → Option Blk) (obs : List Prop) : RR := .ok (.v (.c (.ptr x i sz off))) m obs
/-- a name that is free, below 1000 -/
def freshK (m : Nat → Option Blk) (x : Nat) (K : RR) : RR := match Nat.blt x 1000 with
  | false => .bad
  | true => match m x with
    | none => K
    | some _ => .bad
def allV (l : List AC) (K : List Value → RR) : RR := match l with
  | [] => K []
  | .k v :: r => allV r fun r => K (v :: r)
  | _ :: _ => .bad
theorem allV_ok {l : List AC} {K : List Value → RR} {tv m o} (h : allV l K = .ok tv m o) : ∃ vs, l = vs.map .k ∧ K vs = .ok tv m o := by
  induction l generalizing K with
  | nil => exact ⟨[], rfl, h⟩
  | cons a r ih =>
    cases a with
    | k v =>
      obtain ⟨vs, rfl, h2⟩ := ih h
      exact ⟨v :: vs, rfl, h2⟩
    | _ => cases h
def pickE (K : Bool → TV → RR) : TV → RR
  | .v (.c (.k (.bool b))) => K true (.v (.c (.k (.bool b))))
  | _ => .bad
def evPick (ev : Operand → TV) (m : Nat → Option Blk) (c a b : Operand) : RR := match ev c with
  | .v (.c (.k (.bool bc))) => match a, b with
    | a, .const (.bool false) => match ev a with
      | .grd _ _ bg (.c (.k (.bool xa))) => okB (bc && xa) m [bc = true → bg = true]
      | .v (.c (.k (.bool xa))) => okB (bc && xa) m []
      | _ => .bad
    | .const (.bool true), b => match ev b with
      | .grd _ _ bg (.c (.k (.bool xb))) => okB (bc || xb) m [bc = false → bg = true]
      | .v (.c (.k (.bool xb))) => okB (bc || xb) m []
      | _ => .bad
    | _, _ => .bad
  | _ => .bad
def evAlloc (T : Tab) (x : Nat) (m : Nat → Option Blk) (t : TypeId) : RR := freshK m x <| match T t with
  | some d => match d.kind with
    | .array n e => match T e with
      | some de => okP x 0 de.size 0 (up m x (some (.arr t de.size n (fun _ => de.zero) 0))) []
      | none => .bad
    | _ => forceV d.zero fun l => okP x 0 0 0 (up m x (some (.var t l))) []
  | none => .bad
def evBoxVar (x : Nat) (m : Nat → Option Blk) (t : TypeId) (v : TV) : RR := match v with
  | .v (.agg l) => okP x 0 0 0 (up m x (some (.var t l))) []
  | .v (.c (.k w)) => oc w (okP x 0 0 0 (up m x (some (.var t [.k w]))) [])
  | .v (.c a) => okP x 0 0 0 (up m x (some (.var t [a]))) []
  | _ => .bad
def evBox (T : Tab) (x : Nat) (m : Nat → Option Blk) (t : TypeId) (v : TV) : RR := freshK m x <| match T t with
  | some d => match d.kind with
    | .array n e => match v with
      | .v (.agg l) => match T e with
        | some de => allV l fun vs => match Nat.beq vs.length (n * de.size) with
          | true => okP x 0 de.size 0 (up m x (some (.arr t de.size n (fun i => (vs.drop (i * de.size)).take de.size) 0))) []
          | false => .bad
        | none => .bad
      | _ => .bad
    | _ => evBoxVar x m t v
  | none => .bad
/-- n elements of a row, one after the other -/
def flatE (el : Nat → List Value) : Nat → Nat → List Value
  | _, 0 => []
  | i, n + 1 => el i ++ flatE el (i + 1) n
/-- a whole array is read -/
def evWhole (m : Nat → Option Blk) (d : TyD) (sz n : Nat) (el : Nat → List Value) (i off : Nat) : RR := match d.kind with
  | .array N _ => match Nat.beq n N, Nat.beq i 0, Nat.beq off 0, Nat.beq d.size (N * sz) with
    | true, true, true, true => forceV (flatE el 0 N) fun l => .ok (.v (.agg l)) m []
    | _, _, _, _ => .bad
  | _ => .bad
def evLoad (T : Tab) (m : Nat → Option Blk) (t : TypeId) (p : TV) : RR := match T t, p with
  | some d, .v (.c (.ptr x i sz off)) => match m x with
    | some (.var _ cells) => dropK cells (i * sz + off) fun l => takeK l d.size fun l => match d.kind.isAgg with
      | true => .ok (.v (.agg l)) m []
      | false => match l with
        | a :: _ => .ok (.v (.c a)) m []
        | [] => .bad
    | some (.arr _ sz' n el _) | some (.ro sz' n el) => match Nat.beq sz sz' with
      | false => .bad
      | true => match Nat.blt sz' d.size with
        | true => evWhole m d sz' n el i off
        | false => forceV (el i) fun l => dropK l off fun l => takeK l d.size fun l => match d.kind.isAgg with
          | true => .ok (.v (.agg l)) m [i < n]
          | false => match l with
            | a :: _ => .ok (.v (.c a)) m [i < n]
            | [] => .bad
    | none => .bad
  | _, _ => .bad
def allOne (l : List Value) (K : RR) : RR := match l with
  | [] => K
  | v :: r => oc v (allOne r K)
theorem allOne_ok {l : List Value} {K : RR} {tv m o} (h : allOne l K = .ok tv m o) : (∀ v ∈ l, v.oneCell' = true) ∧ K = .ok tv m o := by
  induction l with
  | nil => exact ⟨by simp, h⟩
  | cons v r ih =>
    unfold allOne oc at h
    split at h
    · rename_i hv
      obtain ⟨h1, h2⟩ := ih h
      exact ⟨fun u hu => by cases hu with
        | head => exact hv
        | tail _ hu => exact h1 u hu, h2⟩
    · cases h
def evStore (T : Tab) (m : Nat → Option Blk) (t : TypeId) (p v : TV) : RR := match T t, p, v with
  | some d, .v (.c (.ptr x i sz off)), .v a => match m x with
    | some (.var ty cells) => match Nat.beq a.cells.length d.size with
      | false => .bad
      | true => putK cells (i * sz + off) a.cells fun cells' => .ok .unk (up m x (some (.var ty cells'))) []
    | some (.arr ty sz' n el room) => match Nat.beq sz sz', Nat.beq a.cells.length d.size with
      | true, true => allV a.cells fun vs => allOne vs <| match Nat.beq off 0, Nat.beq vs.length sz with
        | true, true => .ok .unk (up m x (some (.arr ty sz n (fun k => bif Nat.beq k i then vs else el k) room))) [i < n]
        | z, _ => match z, Nat.beq i 0, Nat.beq vs.length (n * sz) with
          | true, true, true => .ok .unk (up m x (some (.arr ty sz n (fun k => (vs.drop (k * sz)).take sz) room))) []
          | _, _, _ => match Nat.ble (off + vs.length) sz with
            | true => .ok .unk (up m x (some (.arr ty sz n (fun k => bif Nat.beq k i then (el i).take off ++ vs ++ (el i).drop (off + vs.length) else el k) room))) [i < n]
            | false => .bad
      | _, _ => .bad
    | _ => .bad
  | _, _, _ => .bad
def evFieldAddr (T : Tab) (m : Nat → Option Blk) (s : TypeId) (p : TV) (f : Nat) : RR := match T s, p with
  | some d, .v (.c (.ptr x i sz off)) => match d.kind with
    | .struct fs => match fs[f]? with
      | some (o, ft) => match T ft with
        | some fd => match fd.size with
          | 0 => .bad
          | _ + 1 => okP x i sz (off + o) m []
        | none => .bad
      | none => .bad
    | _ => .bad
  | _, _ => .bad
def evField (T : Tab) (m : Nat → Option Blk) (s : TypeId) (v : TV) (f : Nat) : RR := match T s, v with
  | some d, .v (.agg l) => match d.kind with
    | .struct fs => match fs[f]? with
      | some (o, ft) => match T ft with
        | some fd => dropK l o fun l => takeK l fd.size fun l => match fd.kind.isAgg with
          | true => .ok (.v (.agg l)) m []
          | false => match l with
            | a :: _ => .ok (.v (.c a)) m []
            | [] => .bad
        | none => .bad
      | none => .bad
    | _ => .bad
  | _, _ => .bad
def evIndexAddr (T : Tab) (m : Nat → Option Blk) (t : TypeId) (y i : TV) : RR := match T t, i with
  | some d, .v (.c (.k (.int _ n))) => match d.kind with
    | .slice e => match T e with
      | some de => match y with
        | .v (.c (.slc x i0 sz len _)) => match Nat.beq sz de.size with
          | true => okP x (i0 + n.toNat) sz 0 m [0 ≤ n, n < (len : Int)]
          | false => .bad
        | .v (.c (.inp x _ len _)) => okP x n.toNat de.size 0 m [0 ≤ n, n < (len : Int)]
        | _ => .bad
      | none => .bad
    | .array N e => match T e with
      | some de => match y with
        | .v (.c (.ptr x 0 sz 0)) => match Nat.beq sz de.size with
          | true => match Nat.blt 1 N with
            | true => okP x n.toNat sz 0 m [0 ≤ n, n < (N : Int)]
            | false => .bad
          | false => .bad
        | _ => .bad
      | none => .bad
    | _ => .bad
  | _, _ => .bad
def strAt (s : ByteArray) (i : Nat) : Nat := match s[i]? with
  | some b => b.toNat
  | none => 0
def evIndex (T : Tab) (m : Nat → Option Blk) (t : TypeId) (y i : TV) : RR := match T t, y, i with
  | some d, .v (.agg l), .v (.c (.k (.int _ n))) => match d.kind with
    | .array N e => match T e with
      | some de => dropK l (n.toNat * de.size) fun l => takeK l de.size fun l => match de.kind.isAgg with
        | true => .ok (.v (.agg l)) m [0 ≤ n, n < (N : Int)]
        | false => match l with
          | a :: _ => .ok (.v (.c a)) m [0 ≤ n, n < (N : Int)]
          | [] => .bad
      | none => .bad
    | _ => .bad
  | some d, .v (.c (.k (.string s))), .v (.c (.k (.int _ n))) => match d.kind with
    | .str => okI .u8 (strAt s n.toNat : Nat) m [0 ≤ n, n < (s.size : Int)]
    | _ => .bad
  | _, _, _ => .bad
def evExtract (m : Nat → Option Blk) (y : TV) (i : Nat) : RR := match y with
  | .tup l => match l[i]? with
    | some a => forceAV a fun a => .ok (.v a) m []
    | none => .bad
  | _ => .bad
def capK (ev : Operand → TV) (l : List Operand) (K : List Cap → RR) : RR := match l with
  | [] => K []
  | y :: r => match ev y with
    | .v (.c (.k v)) => capK ev r fun r => K (.val v :: r)
    | .v (.c (.ptr x i sz off)) => capK ev r fun r => K (.own x (i * sz + off) :: r)
    | _ => .bad
def evLen (T : Tab) (m : Nat → Option Blk) (t : TypeId) (y : TV) : RR := match T t with
  | some d => match d.kind, y with
    | .slice _, .v (.c (.slc _ _ _ len _)) => okI .i64 (len : Int) m []
    | .slice _, .v (.c (.inp _ _ len _)) => okI .i64 (len : Int) m []
    | .slice _, .v (.c (.k (.slice _ len _))) => okI .i64 (len : Int) m []
    | .array n _, _ => okI .i64 (n : Int) m []
    | .str, .v (.c (.k (.string s))) => okI .i64 (s.size : Int) m []
    | _, _ => .bad
  | none => .bad
def evCall (T : Tab) (ev : Operand → TV) (m : Nat → Option Blk) (c : Call) : RR := match c.callee with
  | .builtin .len => match c.args.toList, c.argTypes.toList with
    | [y], [t] => evLen T m t (ev y)
    | _, _ => .bad
  | .builtin .max => match c.args.toList with
    | [y, z] => match ev y, ev z with
      | .v (.c (.k (.int k a))), .v (.c (.k (.int _ b))) => okI k (if b > a then b else a) m []
      | _, _ => .bad
    | _ => .bad
  | .builtin .min => match c.args.toList with
    | [y, z] => match ev y, ev z with
      | .v (.c (.k (.int k a))), .v (.c (.k (.int _ b))) => okI k (if b < a then b else a) m []
      | _, _ => .bad
    | _ => .bad
  | _ => .bad
def evBin (T : Tab) (m : Nat → Option Blk) (op : BinOp) (t : TypeId) (y z : TV) : RR := match y, z with
  | .v (.c (.k (.int k a))), .v (.c (.k (.int k' b))) => evInt op k k' a b m
  | .v (.c (.k (.bool a))), .v (.c (.k (.bool b))) => match T t with
    | some d => match d.kind, op with
      | .bool, .eql => okB (a == b) m []
      | .bool, .neq => okB (a != b) m []
      | _, _ => .bad
    | none => .bad
  | .v (.c (.k (.string a))), .v (.c (.k (.string b))) => match op with
    | .eql => okB (a.toList == b.toList) m []
    | .neq => okB (!(a.toList == b.toList)) m []
    | _ => .bad
  | .v (.c (.inp _ A _ _)), .v (.c (.k (.slice none _ _))) => match T t with
    | some d => match d.kind, op with
      | .slice _, .eql => okB A.isNone m []
      | .slice _, .neq => okB (!A.isNone) m []
      | _, _ => .bad
    | none => .bad
  | .v (.c (.slc ..)), .v (.c (.k (.slice none _ _))) => match T t with
    | some d => match d.kind, op with
      | .slice _, .eql => okB false m []
      | .slice _, .neq => okB true m []
      | _, _ => .bad
    | none => .bad
  | _, _ => .bad
def fillK (places : Nat → Option (Nat × Nat)) (ev : Operand → TV) (l : List AC) (parts : List (Nat × Operand)) (K : List AC → RR) : RR := match parts with
  | [] => K l
  | (i, y) :: r => match places i with
    | none => .bad
    | some (off, size) => match ev y with
      | .v a => match Nat.beq a.cells.length size with
        | false => .bad
        | true => putK l off a.cells fun l => fillK places ev l r K
      | _ => .bad
def placesS (T : Tab) (fs : List (Nat × TypeId)) (i : Nat) : Option (Nat × Nat) := match fs[i]? with
  | some (o, t) => match T t with
    | some d => some (o, d.size)
    | none => none
  | none => none
def tabAll (T : Tab) (fs : List (Nat × TypeId)) : Bool := match fs with
  | [] => true
  | p :: r => match T p.2 with
    | some _ => tabAll T r
    | none => false
def evBuild (T : Tab) (ev : Operand → TV) (m : Nat → Option Blk) (t : TypeId) (parts : Array (Nat × Operand)) : RR := match T t with
  | some d => match d.kind with
    | .struct fs => match tabAll T fs with
      | true => forceV d.zero fun l => fillK (placesS T fs) ev l parts.toList fun l => .ok (.v (.agg l)) m []
      | false => .bad
    | .array _ e => match T e with
      | some de => forceV d.zero fun l => fillK (fun i => some (i * de.size, de.size)) ev l parts.toList fun l => .ok (.v (.agg l)) m []
      | none => .bad
    | _ => .bad
  | none => .bad
def evBuildSlice (T : Tab) (x : Nat) (ev : Operand → TV) (m : Nat → Option Blk) (t : TypeId) (len : Nat) (parts : Array (Nat × Operand)) : RR := freshK m x <| match T t with
  | some d => match d.kind with
    | .slice e => match T e with
      | some de => match Nat.ble (len * de.size) 4096, Nat.blt 0 (len * de.size) with
        | true, true => forceV (List.replicate len de.zero).flatten fun l => fillK (fun i => some (i * de.size, de.size)) ev l parts.toList fun l => .ok (.v (.c (.slc x 0 de.size len len))) (up m x (some (.var e l))) []
        | _, _ => .bad
      | none => .bad
    | _ => .bad
  | none => .bad
def evUn (m : Nat → Option Blk) (op : UnOp) (y : TV) : RR := match op, y with
  | .not, .v (.c (.k (.bool b))) => okB (!b) m []
  | .neg, .v (.c (.k (.int k n))) => okI k (k.wrap (0 - n)) m []
  | _, _ => .bad
def evConv (T : Tab) (m : Nat → Option Blk) (s t : TypeId) (y : TV) : RR := match T s, T t, y with
  | some ds, some d, .v (.c (.k (.int _ n))) => match ds.kind, d.kind with
    | .int _, .int k => okI k (k.wrap n) m []
    | _, _ => .bad
  | _, _, _ => .bad
def evNil (m : Nat → Option Blk) (y : TV) : RR := match y with
  | .v (.c (.ptr x i sz off)) => okP x i sz off m []
  | _ => .bad
def evOp (T : Tab) (x : Nat) (ev : Operand → TV) (m : Nat → Option Blk) : Op → RR
  | .move y | .assign y => forceTV (ev y) fun tv => .ok tv m []
  | .pick c a b => evPick ev m c a b
  | .alloc t => evAlloc T x m t
  | .box t y => forceTV (ev y) fun v => evBox T x m t v
  | .load t p => evLoad T m t (ev p)
  | .store t p v => forceTV (ev v) fun v => evStore T m t (ev p) v
  | .fieldAddr s p f => evFieldAddr T m s (ev p) f
  | .field s v f => evField T m s (ev v) f
  | .indexAddr t y i => evIndexAddr T m t (ev y) (ev i)
  | .index t y i => evIndex T m t (ev y) (ev i)
  | .extract y i => evExtract m (ev y) i
  | .binOp op t y z _ => evBin T m op t (ev y) (ev z)
  | .unOp op _ y => evUn m op (ev y)
  | .convert s t y => evConv T m s t (ev y)
  | .build t parts => evBuild T ev m t parts
  | .buildSlice t len parts => evBuildSlice T x ev m t len parts
  | .makeFunc (.func f) first caps => match first.toList with
    | [] => capK ev caps.toList fun caps => .ok (.v (.c (.fn f caps))) m []
    | _ => .bad
  | .call c => evCall T ev m c
  | .nilCheck y => evNil m (ev y)
  | _ => .bad
end Go.Sx
