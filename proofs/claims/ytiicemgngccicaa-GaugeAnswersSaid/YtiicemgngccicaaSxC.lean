/- The symbolic executor, part C: types as a table, and what one operation does to a state: a function that is evaluated (evOp), and its soundness. Generic over P. -/
import Derived.Test.YtiicemgngccicaaSxB
set_option linter.unusedVariables false
set_option linter.unusedSimpArgs false
namespace Go.Sx
open Go.RowKit

/-! ### Types -/
inductive TyK where
  | int (k : IntKind) | bool | str | slice (e : TypeId) | array (n : Nat) (e : TypeId) | struct (fs : List (Nat × TypeId)) | other
structure TyD where
  kind : TyK
  size : Nat
  zero : List Value
def TyK.isAgg : TyK → Bool
  | .array .. | .struct _ => true
  | _ => false
def TyD.zv (d : TyD) : Value := bif d.kind.isAgg then .agg d.zero.toArray else d.zero.headD undef
def TyK.ok (P : Program) (t : TypeId) : TyK → Prop
  | .int k => ∀ w, (underlying t).run P w = .ok (.int k) w
  | .bool => ∀ w, (underlying t).run P w = .ok .bool w
  | .str => ∀ w, (underlying t).run P w = .ok .string w
  | .slice e => ∀ w, (underlying t).run P w = .ok (.slice e) w
  | .array n e => ∀ w, (underlying t).run P w = .ok (.array n e) w
  | .struct fs => ∃ f : Array Field, (∀ w, (underlying t).run P w = .ok (.struct f) w) ∧ f.toList.map (fun x => (x.offset, x.type)) = fs
  | .other => True
structure TyOK (P : Program) (t : TypeId) (d : TyD) : Prop where
  size : ∀ w, (sizeOf t).run P w = .ok d.size w
  agg : ∀ w, (isAgg t).run P w = .ok d.kind.isAgg w
  zero : ∀ w, (zeroValue t).run P w = .ok d.zv w
  zsz : d.zero.length = d.size
  zag : d.kind.isAgg = false → d.size = 1
  zc : d.zv.cells.toList = d.zero
  kind : d.kind.ok P t
abbrev Tab := TypeId → Option TyD
def Tab.ok (P : Program) (T : Tab) : Prop := ∀ t d, T t = some d → TyOK P t d

/-! ### The answers of the evaluation -/
inductive RR where
  | bad
  | ok (tv : TV) (m : Nat → Option Blk) (obs : List Prop)
def AllP : List Prop → Prop
  | [] => True
  | p :: r => p ∧ AllP r

def oc (v : Value) (K : RR) : RR := match v.oneCell' with | true => K | false => .bad
def forceAC (a : AC) (K : AC → RR) : RR := match a with
  | .k v => K (.k v) | .ptr x i sz off => K (.ptr x i sz off) | .slc x i sz len cap => K (.slc x i sz len cap) | .inp x A len cap => K (.inp x A len cap) | .fn f caps => K (.fn f caps)
theorem forceAC_eq (a : AC) (K : AC → RR) : forceAC a K = K a := by cases a <;> rfl
def forceL (l : List AC) (K : List AC → RR) : RR := match l with
  | [] => K []
  | a :: r => forceAC a fun a => forceL r fun r => K (a :: r)
theorem forceL_eq (l : List AC) (K : List AC → RR) : forceL l K = K l := by
  induction l generalizing K with
  | nil => rfl
  | cons a r ih => rw [forceL, forceAC_eq, ih]
def forceV (l : List Value) (K : List AC → RR) : RR := match l with
  | [] => K []
  | a :: r => forceV r fun r => K (.k a :: r)
theorem forceV_eq (l : List Value) (K : List AC → RR) : forceV l K = K (l.map .k) := by
  induction l generalizing K with
  | nil => rfl
  | cons a r ih => rw [forceV, ih]; rfl
def forceAV (a : AV) (K : AV → RR) : RR := match a with
  | .c a => forceAC a fun a => K (.c a)
  | .agg l => forceL l fun l => K (.agg l)
theorem forceAV_eq (a : AV) (K : AV → RR) : forceAV a K = K a := by cases a <;> simp [forceAV, forceAC_eq, forceL_eq]
def dropK (l : List AC) (n : Nat) (K : List AC → RR) : RR := match l, n with
  | l, 0 => K l
  | [], _ + 1 => .bad
  | _ :: r, n + 1 => dropK r n K
def takeK (l : List AC) (n : Nat) (K : List AC → RR) : RR := match l, n with
  | _, 0 => K []
  | [], _ + 1 => .bad
  | a :: r, n + 1 => forceAC a fun a => takeK r n fun r => K (a :: r)
theorem dropK_ok {l : List AC} {n : Nat} {K : List AC → RR} {tv m o} (h : dropK l n K = .ok tv m o) : n ≤ l.length ∧ K (l.drop n) = .ok tv m o := by
  induction n generalizing l with
  | zero => cases l <;> exact ⟨Nat.zero_le _, h⟩
  | succ n ih =>
    cases l with
    | nil => cases h
    | cons a r => exact ⟨by have := (ih h).1; simp; omega, (ih h).2⟩
theorem takeK_ok {l : List AC} {n : Nat} {K : List AC → RR} {tv m o} (h : takeK l n K = .ok tv m o) : n ≤ l.length ∧ K (l.take n) = .ok tv m o := by
  induction n generalizing l K with
  | zero => cases l <;> exact ⟨Nat.zero_le _, by simpa [takeK] using h⟩
  | succ n ih =>
    cases l with
    | nil => cases h
    | cons a r =>
      rw [takeK, forceAC_eq] at h
      have := ih h
      exact ⟨by have := this.1; simp; omega, by simpa using this.2⟩
/-- new cells over the old ones, from the head on -/
def overK (l new : List AC) (K : List AC → RR) : RR := match new, l with
  | [], l => K l
  | _ :: _, [] => .bad
  | .k v :: s, _ :: r => oc v (overK r s fun r => K (.k v :: r))
  | a :: s, _ :: r => overK r s fun r => K (a :: r)
def putK (l : List AC) (off : Nat) (new : List AC) (K : List AC → RR) : RR := match l, off with
  | l, 0 => overK l new K
  | [], _ + 1 => .bad
  | a :: r, n + 1 => putK r n new fun r => K (a :: r)
def AC.one : AC → Bool
  | .k v => v.oneCell'
  | _ => true
theorem AC.one_conc {a : AC} (ρ : Val) (h : a.one = true) : (a.conc ρ).oneCell' = true := by cases a <;> first | exact h | rfl
theorem overK_ok {l new : List AC} {K : List AC → RR} {tv m o} (h : overK l new K = .ok tv m o) : new.length ≤ l.length ∧ (∀ a ∈ new, a.one = true) ∧ K (new ++ l.drop new.length) = .ok tv m o := by
  induction new generalizing l K with
  | nil => cases l <;> exact ⟨Nat.zero_le _, by simp, h⟩
  | cons a s ih =>
    cases l with
    | nil => cases a <;> cases h
    | cons b r =>
      have key : ∀ {K : List AC → RR}, (overK r s fun r => K (a :: r)) = .ok tv m o → a.one = true → (a :: s).length ≤ (b :: r).length ∧ (∀ c ∈ a :: s, c.one = true) ∧ K ((a :: s) ++ (b :: r).drop (a :: s).length) = .ok tv m o := by
        intro K h h1
        obtain ⟨h2, h3, h4⟩ := ih h
        refine ⟨by simp; exact h2, fun c hc => ?_, by simpa using h4⟩
        cases hc with
        | head => exact h1
        | tail _ hc => exact h3 c hc
      cases a with
      | k v =>
        simp only [overK, oc] at h
        cases hv : v.oneCell' with
        | false => rw [hv] at h; cases h
        | true => rw [hv] at h; exact key h hv
      | _ => exact key h rfl
theorem putK_ok {l new : List AC} {off : Nat} {K : List AC → RR} {tv m o} (h : putK l off new K = .ok tv m o) : off + new.length ≤ l.length ∧ (∀ a ∈ new, a.one = true) ∧ K (l.take off ++ new ++ l.drop (off + new.length)) = .ok tv m o := by
  induction off generalizing l K with
  | zero =>
    have h' : overK l new K = .ok tv m o := by cases l <;> exact h
    obtain ⟨h1, h2, h3⟩ := overK_ok h'
    exact ⟨by omega, h2, by simpa using h3⟩
  | succ n ih =>
    cases l with
    | nil => cases h
    | cons a r =>
      obtain ⟨h1, h2, h3⟩ := ih h
      refine ⟨by simp; omega, h2, ?_⟩
      have e : n + 1 + new.length = n + new.length + 1 := by omega
      rw [e]
      simpa using h3

/-! ### Memory: reading and writing -/
theorem addr_add (b o n : Nat) : (⟨b, o, none⟩ : Addr).add n = ⟨b, o + n, none⟩ := by unfold Addr.add; split <;> simp_all
theorem cells_of_agg {ρ : Val} {l : List AC} : (AV.conc ρ (.agg l)).cells.toList = l.map (AC.conc ρ) := by simp [AV.conc, Value.cells]

theorem run_load_list {P : Program} {t : TypeId} {d : TyD} (hd : TyOK P t d) {w : World} {b o : Nat} {cs : List Value} (hl : cs.length = d.size)
    (hc : ∀ j v, cs[j]? = some v → w.cell? ⟨b, o + j, none⟩ = some v) :
    (Instr.loadAt t (.pointer (some ⟨b, o, none⟩))).run P w = .ok (bif d.kind.isAgg then .agg cs.toArray else cs.headD undef) w := by
  simp only [Instr.loadAt, Instr.sureAddr, loadVar, Sem.run_bind, Sem.run_pure, Result.andThen_ok, hd.agg w]
  cases hk : d.kind.isAgg with
  | true =>
    have := run_loadCells_list (P := P) w ⟨b, o, none⟩ cs (fun j v h => by rw [addr_add]; exact hc j v h)
    rw [hl] at this
    simp [hd.size w, this]
  | false =>
    have h1 := hd.zag hk
    have h2 : cs.length = 1 := by omega
    match cs, h2 with
    | [v], _ =>
      have := hc 0 v rfl
      rw [Nat.add_zero] at this
      simp [this]
theorem run_store_list {P : Program} {t : TypeId} {d : TyD} (hd : TyOK P t d) {w : World} {b o : Nat} {cur : Array Value} {ty : TypeId} {v : Value} (hg : w.heap[b]? = some (.cells cur ty (0, 0)))
    (hl : v.cells.size = d.size) (hr : o + v.cells.size ≤ cur.size) (h1 : ∀ x ∈ v.cells.toList, x.oneCell' = true) :
    (Instr.storeAt t (.pointer (some ⟨b, o, none⟩)) v).run P w = .ok () (w.setRow b (cur.toList.take o ++ v.cells.toList ++ cur.toList.drop (o + v.cells.size)).toArray) := by
  have := run_storeCells_at P b o ty v.cells.toList 0 cur w hg (by simpa using hr) h1
  simp only [Nat.add_zero] at this
  simp [Instr.storeAt, Instr.sureAddr, storeVar, hd.size w, hl, this]

theorem heap_setRow {w : World} {b : Nat} {cur : Array Value} {ty : TypeId} (hg : w.heap[b]? = some (.cells cur ty (0, 0))) (cs : Array Value) : (w.setRow b cs).heap[b]? = some (.cells cs ty (0, 0)) := setRow_heap w b cur _ ty _ hg
theorem heap_setRow_ne (w : World) (b g : Nat) (cs : Array Value) (h : g ≠ b) : (w.setRow b cs).heap[g]? = w.heap[g]? := by
  simp only [World.setRow, Array.getElem?_modify]
  rw [if_neg (by omega)]
theorem Fr.setRow {w0 w : World} {bs : List Nat} (h : Fr w0 bs w) {b : Nat} (hp : w0.heap.size ≤ b ∨ b ∈ bs) (cs : Array Value) : Fr w0 bs (w.setRow b cs) :=
  ⟨h.os, h.tape, h.output, by simpa [World.setRow] using h.size, fun k hk hn => by
    refine (heap_setRow_ne w b k cs ?_).trans (h.block k hk hn)
    rintro rfl
    rcases hp with hp | hp
    · omega
    · exact hn hp⟩
theorem mem_bor {E : Env} {ρ : Val} {x : Nat} (h : E.w0.heap.size ≤ (ρ x).1 ∨ (x, (ρ x).1) ∈ E.bor) : E.w0.heap.size ≤ (ρ x).1 ∨ (ρ x).1 ∈ E.bor.map (·.2) :=
  h.imp id fun h => List.mem_map.2 ⟨_, h, rfl⟩

/-- A variable's cells are written. -/
theorem SatM.putVar {E : Env} {ρ : Val} {m : Nat → Option Blk} {w : World} (h : SatM E ρ m w) {x : Nat} {ty : TypeId} {cells cells' : List AC} (hx : m x = some (.var ty cells)) (ho : ∀ c ∈ cells', c.ok ρ m) :
    SatM E ρ (up m x (some (.var ty cells'))) (w.setRow (ρ x).1 (cells'.map (AC.conc ρ)).toArray) := by
  have hk := h.ok x _ hx
  refine h.put hx trivial trivial (h.fr.setRow (mem_bor hk.2.1) _) (by simp [World.setRow]) (fun g hg => heap_setRow_ne _ _ _ _ hg) ?_
  exact ⟨hk.1, hk.2.1, heap_setRow hk.2.2.1 _, fun c hc => AC.ok_mono (fun y hy => isSome_up y hy) (fun _ _ => rfl) (ho c hc)⟩
theorem SatM.newVar {E : Env} {ρ : Val} {m : Nat → Option Blk} {w : World} (h : SatM E ρ m w) {x : Nat} (hx : m x = none) (hxb : x < 1000) (ty : TypeId) {cells : List AC} (ho : ∀ c ∈ cells, c.ok ρ m) :
    SatM E (up ρ x (w.heap.size, 0)) (up m x (some (.var ty cells))) (w.alloc (.cells (cells.map (AC.conc ρ)).toArray ty (0, 0))) := by
  refine h.alloc hx hxb _ _ fun ρ' h1 h2 => ?_
  have hρ : ∀ y, (m y).isSome = true → ρ' y = ρ y := fun y hy => h1 y (fun e => by subst e; simp [hx] at hy)
  have hcm : cells.map (AC.conc ρ') = cells.map (AC.conc ρ) := List.map_congr_left fun c hm => AC.conc_mono hρ (ho c hm)
  exact ⟨by rw [h2], .inl (by rw [h2]; exact h.fr.size), by rw [h2, hcm]; exact heap_alloc_new _ _, fun c hc => AC.ok_mono (fun y hy => isSome_up y hy) hρ (ho c hc)⟩
theorem SatM.newArr {E : Env} {ρ : Val} {m : Nat → Option Blk} {w : World} (h : SatM E ρ m w) {x : Nat} (hx : m x = none) (hxb : x < 1000) (ty : TypeId) {sz n room : Nat} {el : Nat → List Value} {a : Array Value}
    (hs : n * sz + room ≤ a.size) (he : ∀ i, i < n → (el i).length = sz ∧ ∀ j, j < sz → a[i * sz + j]? = (el i)[j]?) :
    SatM E (up ρ x (w.heap.size, 0)) (up m x (some (.arr ty sz n el room))) (w.alloc (.cells a ty (0, 0))) := by
  refine h.alloc hx hxb _ _ fun ρ' h1 h2 => ?_
  exact ⟨by rw [h2], .inl (by rw [h2]; exact h.fr.size), a, by rw [h2]; exact heap_alloc_new _ _, hs, he⟩

/-! ### One operation -/
def forceTV (t : TV) (K : TV → RR) : RR := match t with
  | .unk => K .unk
  | .v a => forceAV a fun a => K (.v a)
  | .tup l => K (.tup l)
  | .grd j w b a => forceAV a fun a => K (.grd j w b a)
theorem forceTV_eq (t : TV) (K : TV → RR) : forceTV t K = K t := by cases t <;> simp [forceTV, forceAV_eq]
def sameK : IntKind → IntKind → Bool
  | .i8, .i8 | .i16, .i16 | .i32, .i32 | .i64, .i64 | .u8, .u8 | .u16, .u16 | .u32, .u32 | .u64, .u64 => true
  | _, _ => false
theorem sameK_eq {a b : IntKind} (h : sameK a b = true) : a = b := by cases a <;> cases b <;> first | rfl | cases h
def bitsOp (op : BinOp) (k : IntKind) (x y : Int) : Int :=
  let a := BitVec.ofInt k.bits x
  let b := BitVec.ofInt k.bits y
  k.wrap (match op with | .and => (a &&& b).toNat | .or => (a ||| b).toNat | .xor => (a ^^^ b).toNat | _ => (a &&& ~~~b).toNat)
def okI (k : IntKind) (n : Int) (m : Nat → Option Blk) (obs : List Prop) : RR := .ok (.v (.c (.k (.int k n)))) m obs
def okB (b : Bool) (m : Nat → Option Blk) (obs : List Prop) : RR := .ok (.v (.c (.k (.bool b)))) m obs
def evInt (op : BinOp) (k k' : IntKind) (a b : Int) (m : Nat → Option Blk) : RR := match op with
  | .shl => okI k (k.wrap (a * 2 ^ (min b.toNat k.bits))) m [0 ≤ b]
  | .shr => okI k (a.fdiv (2 ^ (min b.toNat k.bits))) m [0 ≤ b]
  | .add => match sameK k k' with | true => okI k (k.wrap (a + b)) m [] | false => .bad
  | .sub => match sameK k k' with | true => okI k (k.wrap (a - b)) m [] | false => .bad
  | .mul => match sameK k k' with | true => okI k (k.wrap (a * b)) m [] | false => .bad
  | .quo => match sameK k k' with | true => okI k (k.wrap (a.tdiv b)) m [¬ b = 0] | false => .bad
  | .rem => match sameK k k' with | true => okI k (a.tmod b) m [¬ b = 0] | false => .bad
  | .and => match sameK k k' with | true => okI k (bitsOp .and k a b) m [] | false => .bad
  | .or => match sameK k k' with | true => okI k (bitsOp .or k a b) m [] | false => .bad
  | .xor => match sameK k k' with | true => okI k (bitsOp .xor k a b) m [] | false => .bad
  | .andNot => match sameK k k' with | true => okI k (bitsOp .andNot k a b) m [] | false => .bad
  | .eql => match sameK k k' with | true => okB (a == b) m [] | false => .bad
  | .neq => match sameK k k' with | true => okB (a != b) m [] | false => .bad
  | .lss => match sameK k k' with | true => okB (decide (a < b)) m [] | false => .bad
  | .leq => match sameK k k' with | true => okB (decide (a ≤ b)) m [] | false => .bad
  | .gtr => match sameK k k' with | true => okB (decide (a > b)) m [] | false => .bad
  | .geq => match sameK k k' with | true => okB (decide (a ≥ b)) m [] | false => .bad
theorem evInt_sound {P : Program} {op : BinOp} {k k' : IntKind} {a b : Int} {m m' : Nat → Option Blk} {tv : TV} {obs : List Prop} (h : evInt op k k' a b m = .ok tv m' obs) (ho : AllP obs) (t : TypeId) (w : World) :
    m' = m ∧ ∃ v, tv = .v (.c (.k v)) ∧ (binOp op t (.int k a) (.int k' b)).run P w = .ok v w := by
  cases op <;> simp only [evInt, okI, okB] at h <;>
  first
    | (injection h with h1 h2 h3
       subst h1; subst h2; subst h3
       refine ⟨rfl, _, rfl, ?_⟩
       have h0 : ¬ b < 0 := by have := ho.1; omega
       simp [binOp, Op.shift, h0]; done)
    | (cases hk : sameK k k' with
       | false => rw [hk] at h; cases h
       | true =>
         obtain rfl := sameK_eq hk
         rw [hk] at h
         injection h with h1 h2 h3
         subst h1; subst h2; subst h3
         refine ⟨rfl, _, rfl, ?_⟩
         first
           | (simp [binOp, Op.intArith]; done)
           | (have h0 : ¬ b = 0 := ho.1
              simp [binOp, Op.intDiv, h0]; done)
           | (simp [binOp, Op.intBits, bitsOp]; done)
           | (simp [binOp, Op.intCmp]; done)
           | (simp [binOp, Op.intCmp, bne]; done))
end Go.Sx
