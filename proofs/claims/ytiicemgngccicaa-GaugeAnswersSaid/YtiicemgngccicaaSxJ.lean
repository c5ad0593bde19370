/- The symbolic executor, part J: what an operation does to a memory does not hang on blocks that it does not look at. Generic over P. -/
import Derived.Test.YtiicemgngccicaaSxI
set_option linter.unusedVariables false
set_option linter.unusedSimpArgs false
namespace Go.Sx
open Go.RowKit
abbrev Mem := Nat → Option Blk
def RR.re (f : Mem → Mem) : RR → RR
  | .bad => .bad
  | .ok tv m obs => .ok tv (f m) obs
section
variable {f : Mem → Mem} {T : Tab} {m m2 : Mem} {x : Nat}
theorem re_forceAC {a : AC} {K : AC → RR} : (forceAC a K).re f = forceAC a fun a => (K a).re f := by rw [forceAC_eq, forceAC_eq]
theorem re_forceV {l : List Value} {K : List AC → RR} : (forceV l K).re f = forceV l fun a => (K a).re f := by rw [forceV_eq, forceV_eq]
theorem re_forceAV {a : AV} {K : AV → RR} : (forceAV a K).re f = forceAV a fun a => (K a).re f := by rw [forceAV_eq, forceAV_eq]
theorem re_forceTV {a : TV} {K : TV → RR} : (forceTV a K).re f = forceTV a fun a => (K a).re f := by rw [forceTV_eq, forceTV_eq]
theorem re_oc {v : Value} {K : RR} : (oc v K).re f = oc v (K.re f) := by unfold oc; split <;> rfl
theorem re_dropK {l : List AC} {n : Nat} {K : List AC → RR} : (dropK l n K).re f = dropK l n fun l => (K l).re f := by
  induction n generalizing l with
  | zero => cases l <;> rfl
  | succ n ih => cases l with
    | nil => rfl
    | cons a r => exact ih
theorem re_takeK {l : List AC} {n : Nat} {K : List AC → RR} : (takeK l n K).re f = takeK l n fun l => (K l).re f := by
  induction n generalizing l K with
  | zero => cases l <;> rfl
  | succ n ih => cases l with
    | nil => rfl
    | cons a r =>
      rw [takeK, takeK, forceAC_eq, forceAC_eq]
      exact ih
theorem re_overK {l new : List AC} {K : List AC → RR} : (overK l new K).re f = overK l new fun l => (K l).re f := by
  induction new generalizing l K with
  | nil => cases l <;> rfl
  | cons a s ih => cases l with
    | nil => cases a <;> rfl
    | cons b r => cases a <;> first
      | exact ih
      | (simp only [overK, re_oc]
         congr 1
         exact ih)
theorem re_putK {l new : List AC} {n : Nat} {K : List AC → RR} : (putK l n new K).re f = putK l n new fun l => (K l).re f := by
  induction n generalizing l K with
  | zero => cases l <;> exact re_overK
  | succ n ih => cases l with
    | nil => rfl
    | cons a r => exact ih
theorem re_allV {l : List AC} {K : List Value → RR} : (allV l K).re f = allV l fun l => (K l).re f := by
  induction l generalizing K with
  | nil => rfl
  | cons a r ih => cases a <;> first
    | rfl
    | exact ih
theorem re_allOne {l : List Value} {K : RR} : (allOne l K).re f = allOne l (K.re f) := by
  induction l with
  | nil => rfl
  | cons v r ih => rw [allOne, re_oc, ih]; rfl
theorem re_capK {ev : Operand → TV} {l : List Operand} {K : List Cap → RR} : (capK ev l K).re f = capK ev l fun l => (K l).re f := by
  induction l generalizing K with
  | nil => rfl
  | cons a r ih =>
    unfold capK
    split
    · exact ih
    · exact ih
    · rfl
theorem re_fillK {pl : Nat → Option (Nat × Nat)} {ev : Operand → TV} {l : List AC} {parts : List (Nat × Operand)} {K : List AC → RR} : (fillK pl ev l parts K).re f = fillK pl ev l parts fun l => (K l).re f := by
  induction parts generalizing l with
  | nil => rfl
  | cons a r ih =>
    obtain ⟨i, y⟩ := a
    unfold fillK
    split
    · rfl
    · split
      · split
        · rfl
        · rw [re_putK]
          congr 1
          funext l
          exact ih
      · rfl
theorem re_evInt {op : BinOp} {k k' : IntKind} {a b : Int} : evInt op k k' a b m2 = (evInt op k k' a b m).re fun _ => m2 := by
  cases op <;> simp only [evInt] <;> first
    | rfl
    | (split <;> rfl)
theorem re_part {l : List AC} {n : Nat} {b : Bool} {obs : List Prop} : (takeK l n fun l => match b with
      | true => RR.ok (.v (.agg l)) m2 obs
      | false => match l with
        | a :: _ => .ok (.v (.c a)) m2 obs
        | [] => .bad) = (takeK l n fun l => match b with
      | true => RR.ok (.v (.agg l)) m obs
      | false => match l with
        | a :: _ => .ok (.v (.c a)) m obs
        | [] => .bad).re fun _ => m2 := by
  rw [re_takeK]
  congr 1
  funext l
  split
  · rfl
  · split <;> rfl
theorem re_part2 {l : List AC} {n k : Nat} {b : Bool} {obs : List Prop} : (dropK l k fun l => takeK l n fun l => match b with
      | true => RR.ok (.v (.agg l)) m2 obs
      | false => match l with
        | a :: _ => .ok (.v (.c a)) m2 obs
        | [] => .bad) = (dropK l k fun l => takeK l n fun l => match b with
      | true => RR.ok (.v (.agg l)) m obs
      | false => match l with
        | a :: _ => .ok (.v (.c a)) m obs
        | [] => .bad).re fun _ => m2 := by
  rw [re_dropK]
  congr 1
  funext l
  exact re_part
theorem re_evPick {ev : Operand → TV} {c a b : Operand} : evPick ev m2 c a b = (evPick ev m c a b).re fun _ => m2 := by
  unfold evPick
  repeat' (first | rfl | split)
theorem re_evFieldAddr {s : TypeId} {p : TV} {k : Nat} : evFieldAddr T m2 s p k = (evFieldAddr T m s p k).re fun _ => m2 := by
  unfold evFieldAddr
  repeat' (first | rfl | split)
theorem re_evField {s : TypeId} {p : TV} {k : Nat} : evField T m2 s p k = (evField T m s p k).re fun _ => m2 := by
  unfold evField
  repeat' (first | rfl | exact re_part2 | split)
theorem re_evIndexAddr {t : TypeId} {y i : TV} : evIndexAddr T m2 t y i = (evIndexAddr T m t y i).re fun _ => m2 := by
  unfold evIndexAddr
  repeat' (first | rfl | split)
theorem re_evIndex {t : TypeId} {y i : TV} : evIndex T m2 t y i = (evIndex T m t y i).re fun _ => m2 := by
  unfold evIndex
  repeat' (first | rfl | exact re_part2 | split)
theorem re_evExtract {y : TV} {i : Nat} : evExtract m2 y i = (evExtract m y i).re fun _ => m2 := by
  unfold evExtract
  repeat' (first | rfl | (rw [re_forceAV]; rfl) | split)
theorem re_evBin {op : BinOp} {t : TypeId} {y z : TV} : evBin T m2 op t y z = (evBin T m op t y z).re fun _ => m2 := by
  unfold evBin
  repeat' (first | rfl | exact re_evInt | split)
theorem re_evUn {op : UnOp} {y : TV} : evUn m2 op y = (evUn m op y).re fun _ => m2 := by
  unfold evUn
  repeat' (first | rfl | split)
theorem re_evConv {s t : TypeId} {y : TV} : evConv T m2 s t y = (evConv T m s t y).re fun _ => m2 := by
  unfold evConv
  repeat' (first | rfl | split)
theorem re_evNil {y : TV} : evNil m2 y = (evNil m y).re fun _ => m2 := by
  unfold evNil
  repeat' (first | rfl | split)
theorem re_evLen {t : TypeId} {y : TV} : evLen T m2 t y = (evLen T m t y).re fun _ => m2 := by
  unfold evLen
  repeat' (first | rfl | split)
theorem re_evCall {ev : Operand → TV} {c : Call} : evCall T ev m2 c = (evCall T ev m c).re fun _ => m2 := by
  unfold evCall
  repeat' (first | rfl | exact re_evLen | split)
theorem re_evBuild {ev : Operand → TV} {t : TypeId} {parts : Array (Nat × Operand)} : evBuild T ev m2 t parts = (evBuild T ev m t parts).re fun _ => m2 := by
  unfold evBuild
  repeat' (first | rfl | (rw [re_forceV]; congr 1; funext l; rw [re_fillK]; rfl) | split)
theorem re_whole {d : TyD} {sz n i off : Nat} {el : Nat → List Value} : evWhole m2 d sz n el i off = (evWhole m d sz n el i off).re fun _ => m2 := by
  unfold evWhole
  repeat' (first | rfl | (rw [re_forceV]; rfl) | split)
theorem re_evLoad {t : TypeId} {p : TV} (hle : ∀ y, m y = none ∨ m2 y = m y) {tv : TV} {m' : Mem} {obs : List Prop} (h : evLoad T m t p = .ok tv m' obs) : evLoad T m2 t p = .ok tv m2 obs := by
  have key : ∀ x i sz off, p = .v (.c (.ptr x i sz off)) → m2 x = m x → evLoad T m2 t p = (evLoad T m t p).re fun _ => m2 := by
    intro x i sz off hp hx
    subst hp
    unfold evLoad
    split
    · rename_i d x' i' sz' off' hd heq
      injection heq with heq
      injection heq with heq
      injection heq with h1 h2 h3 h4
      subst h1; subst h2; subst h3; subst h4
      rw [hx]
      repeat' (first | rfl | exact re_part2 | exact re_whole | (rw [re_forceV]; congr 1; funext l; exact re_part2) | split)
    · rfl
  have : ∃ x i sz off, p = .v (.c (.ptr x i sz off)) ∧ m2 x = m x := by
    unfold evLoad at h
    split at h
    · rename_i d x i sz off hd
      refine ⟨x, i, sz, off, rfl, (hle x).resolve_left ?_⟩
      intro hn
      rw [hn] at h
      cases h
    · cases h
  obtain ⟨x, i, sz, off, hp, hx⟩ := this
  rw [key x i sz off hp hx, h]
  rfl
/-- Which block an operation turns. -/
def nameOf (ev : Operand → TV) (x : Nat) : Op → Option Nat
  | .alloc _ | .box .. | .buildSlice .. => some x
  | .store _ p _ => match ev p with
    | .v (.c (.ptr y _ _ _)) => some y
    | _ => none
  | _ => none
def msN (m' : Mem) : Option Nat → List (Nat × Blk)
  | some y => match m' y with
    | some b => [(y, b)]
    | none => []
  | none => []
def msOf (ev : Operand → TV) (x : Nat) (op : Op) (m' : Mem) : List (Nat × Blk) := msN m' (nameOf ev x op)
def mget : List (Nat × Blk) → Nat → Option Blk
  | [], _ => none
  | (y, b) :: r, x => bif Nat.beq x y then some b else mget r x
def upm (m : Mem) (l : List (Nat × Blk)) : Mem := fun x => match mget l x with
  | some b => some b
  | none => m x
theorem upm_one (m : Mem) (x : Nat) (b : Blk) : upm m [(x, b)] = up m x (some b) := by
  funext y
  unfold upm mget up
  cases Nat.beq y x <;> rfl
theorem upm_nil (m : Mem) : upm m [] = m := rfl
def liftM (m2 : Mem) (n : Option Nat) (m' : Mem) : Mem := upm m2 (msN m' n)
theorem lift_up {y : Nat} {b : Blk} : liftM m2 (some y) (up m y (some b)) = up m2 y (some b) := by
  show upm m2 (match up m y (some b) y with
    | some b => [(y, b)]
    | none => []) = _
  rw [up_same]
  exact upm_one m2 y b
theorem re_fresh {K K2 : RR} (hx : m2 x = m x) (h : K2 = K.re f) : freshK m2 x K2 = (freshK m x K).re f := by
  unfold freshK
  rw [hx]
  repeat' (first | rfl | exact h | split)
theorem re_evAlloc {t : TypeId} (hx : m2 x = m x) : evAlloc T x m2 t = (evAlloc T x m t).re (liftM m2 (some x)) := by
  unfold evAlloc
  refine re_fresh hx ?_
  repeat' (first | rfl | (simp only [okP, RR.re, lift_up]; done) | (rw [re_forceV]; simp only [okP, RR.re, lift_up]; done) | split)
theorem re_evBox {t : TypeId} {v : TV} (hx : m2 x = m x) : evBox T x m2 t v = (evBox T x m t v).re (liftM m2 (some x)) := by
  unfold evBox evBoxVar
  refine re_fresh hx ?_
  repeat' (first | rfl | (simp only [okP, RR.re, lift_up]; done) | (rw [re_oc]; simp only [okP, RR.re, lift_up]; done) | (rw [re_allV]; congr 1; funext l; split <;> first | rfl | (simp only [okP, RR.re, lift_up]; done)) | split)
theorem re_evBuildSlice {ev : Operand → TV} {t : TypeId} {n : Nat} {parts : Array (Nat × Operand)} (hx : m2 x = m x) : evBuildSlice T x ev m2 t n parts = (evBuildSlice T x ev m t n parts).re (liftM m2 (some x)) := by
  unfold evBuildSlice
  refine re_fresh hx ?_
  repeat' (first | rfl | (rw [re_forceV]; congr 1; funext l; rw [re_fillK]; simp only [RR.re, lift_up]; done) | split)
theorem re_evStore {t : TypeId} {p v : TV} (hle : ∀ y, m y = none ∨ m2 y = m y) {tv : TV} {m' : Mem} {obs : List Prop} (h : evStore T m t p v = .ok tv m' obs) : ∃ y, (∃ i sz off, p = .v (.c (.ptr y i sz off))) ∧ evStore T m2 t p v = .ok tv (liftM m2 (some y) m') obs := by
  unfold evStore at h
  split at h
  rotate_left
  · cases h
  rename_i d y i sz off a hd
  have hy : m2 y = m y := by
    refine (hle y).resolve_left fun hn => ?_
    rw [hn] at h
    cases h
  refine ⟨y, ⟨i, sz, off, rfl⟩, ?_⟩
  unfold evStore
  rw [hd]
  simp only [hy]
  split at h
  · rename_i ty cells hc
    split at h
    · cases h
    · have := congrArg (RR.re (liftM m2 (some y))) h
      rw [re_putK] at this
      simp only [RR.re, lift_up] at this
      exact this
  · rename_i ty sz' n el room hc
    split at h
    · have := congrArg (RR.re (liftM m2 (some y))) h
      rw [re_allV] at this
      simp only [re_allOne] at this
      refine Eq.trans ?_ this
      congr 1
      funext vs
      congr 1
      repeat' (first | rfl | (simp only [RR.re, lift_up]; done) | split)
    · cases h
  · cases h
theorem evOp_mem {ev : Operand → TV} {op : Op} {tv : TV} {m' : Mem} {obs : List Prop} (hle : ∀ y, m y = none ∨ m2 y = m y) (hx : m2 x = m x) (h : evOp T x ev m op = .ok tv m' obs) : evOp T x ev m2 op = .ok tv (upm m2 (msOf ev x op m')) obs := by
  have pure : nameOf ev x op = none → evOp T x ev m2 op = (evOp T x ev m op).re (fun _ => m2) → evOp T x ev m2 op = .ok tv (upm m2 (msOf ev x op m')) obs := by
    intro hn he
    rw [he, h, msOf, hn]
    rfl
  have own : nameOf ev x op = some x → evOp T x ev m2 op = (evOp T x ev m op).re (liftM m2 (some x)) → evOp T x ev m2 op = .ok tv (upm m2 (msOf ev x op m')) obs := by
    intro hn he
    rw [he, h, msOf, hn]
    rfl
  cases op <;> first
    | (cases h; done)
    | exact pure rfl re_evPick
    | exact own rfl (re_evAlloc hx)
    | (refine own rfl ?_
       simp only [evOp, forceTV_eq]
       exact re_evBox hx)
    | exact pure rfl re_evFieldAddr
    | exact pure rfl re_evField
    | exact pure rfl re_evIndexAddr
    | exact pure rfl re_evIndex
    | exact pure rfl re_evExtract
    | exact pure rfl re_evBin
    | exact pure rfl re_evUn
    | exact pure rfl re_evConv
    | exact pure rfl re_evBuild
    | exact own rfl (re_evBuildSlice hx)
    | exact pure rfl re_evCall
    | exact pure rfl re_evNil
    | (refine pure rfl ?_
       simp only [evOp, forceTV_eq]
       rfl)
    | exact re_evLoad hle h
    | (rename_i t y z
       simp only [evOp, forceTV_eq] at h ⊢
       obtain ⟨n, ⟨i, sz, off, hp⟩, he⟩ := re_evStore hle h
       rw [he, msOf, nameOf, hp]
       rfl)
    | (rename_i fn first caps
       refine pure rfl ?_
       cases fn <;> first
         | rfl
         | (simp only [evOp]
            split
            · rw [re_capK]; rfl
            · rfl))
end
end Go.Sx
