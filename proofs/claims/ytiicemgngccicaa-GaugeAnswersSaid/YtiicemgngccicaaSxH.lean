/- The symbolic executor, part H: many operations at once (GO.run), operations under a guard, calls by contracts, results. Generic over P. -/
import Derived.Test.YtiicemgngccicaaSxG
set_option linter.unusedVariables false
set_option linter.unusedSimpArgs false
namespace Go.Sx
open Go.RowKit
section
variable {P : Program} {E : Env} {K : Exit → St → Prop} {st : St} {T : Tab} {ops : Array Oper} {rest : List Oper}

def putT (t : Nat → TV) (d : Option Nat) (tv : TV) : Nat → TV := match d with
  | some d => up t d tv
  | none => t
theorem Sat.putT {ρ : Val} {a : Act} {w : World} (h : Sat E ρ st a w) {d : Option Nat} (hd : ∀ n, d = some n → n < E.N) {tv : TV} {v : Value} (hv : tv.rep ρ st.m v) : Sat E ρ ⟨Sx.putT st.t d tv, st.m⟩ (a.put d v) w := by
  cases d with
  | none => exact h
  | some d => exact h.put (hd d rfl) hv
def dstOk (N : Nat) (d : Option Nat) : Bool := match d with
  | some d => Nat.blt d N
  | none => true
theorem dstOk_lt {N : Nat} {d : Option Nat} (h : dstOk N d = true) : ∀ n, d = some n → n < N := by
  rintro n rfl
  simpa [dstOk, Nat.blt_eq] using h

theorem Act.eval_const (a : Act) (v : Value) : a.eval (.const v) = v := rfl

/-! ### Guards -/
def pureOp : Op → Bool
  | .move _ | .assign _ | .pick .. | .load .. | .fieldAddr .. | .field .. | .indexAddr .. | .index .. | .extract .. | .binOp .. | .unOp .. | .convert .. | .call _ | .nilCheck _ | .build .. => true
  | _ => false
theorem part_m {l : List AC} {n k : Nat} {b : Bool} {m m' : Nat → Option Blk} {ob obs : List Prop} {tv : TV}
    (h : (dropK l n fun l => takeK l k fun l => match b with | true => RR.ok (.v (.agg l)) m ob | false => match l with | a :: _ => .ok (.v (.c a)) m ob | [] => .bad) = .ok tv m' obs) : m' = m := by
  obtain ⟨_, h⟩ := dropK_ok h
  obtain ⟨_, h⟩ := takeK_ok h
  cases b with
  | true => exact (ok_inj h).2.1
  | false =>
    simp only at h
    split at h
    · exact (ok_inj h).2.1
    · cases h
theorem whole_m {d : TyD} {sz n i off : Nat} {el : Nat → List Value} {m m' : Nat → Option Blk} {obs : List Prop} {tv : TV} (h : evWhole m d sz n el i off = .ok tv m' obs) : m' = m := by
  unfold evWhole at h
  split at h
  · split at h
    · rw [forceV_eq] at h; exact (ok_inj h).2.1
    · cases h
  · cases h
theorem evInt_m {op : BinOp} {k k' : IntKind} {a b : Int} {m m' : Nat → Option Blk} {tv : TV} {obs : List Prop} (h : evInt op k k' a b m = .ok tv m' obs) : m' = m := by
  cases op <;> simp only [evInt] at h <;> first
    | exact (okI_inj h).2.1
    | (cases hk : sameK k k' with
       | false => rw [hk] at h; cases h
       | true => rw [hk] at h; first | exact (okI_inj h).2.1 | exact (okB_inj h).2.1)
theorem fillK_to {places : Nat → Option (Nat × Nat)} {ev : Operand → TV} {parts : List (Nat × Operand)} {l : List AC} {K : List AC → RR} {m' : Nat → Option Blk} {tv : TV} {obs : List Prop} (h : fillK places ev l parts K = .ok tv m' obs) : ∃ l', K l' = .ok tv m' obs := by
  induction parts generalizing l with
  | nil => exact ⟨l, h⟩
  | cons p r ih =>
    obtain ⟨i, y⟩ := p
    simp only [fillK] at h
    split at h
    · cases h
    · split at h
      · split at h
        · cases h
        · obtain ⟨_, _, h⟩ := putK_ok h
          exact ih h
      · cases h
theorem build_m {ev : Operand → TV} {m m' : Nat → Option Blk} {t : TypeId} {parts : Array (Nat × Operand)} {tv : TV} {obs : List Prop} (h : evBuild T ev m t parts = .ok tv m' obs) : m' = m := by
  unfold evBuild at h
  split at h
  rotate_left
  · cases h
  split at h
  · split at h
    rotate_left
    · cases h
    rw [forceV_eq] at h
    obtain ⟨l', h⟩ := fillK_to h
    exact (ok_inj h).2.1
  · split at h
    rotate_left
    · cases h
    rw [forceV_eq] at h
    obtain ⟨l', h⟩ := fillK_to h
    exact (ok_inj h).2.1
  · cases h
theorem evOp_pure {x : Nat} {ev : Operand → TV} {m m' : Nat → Option Blk} {op : Op} {tv : TV} {obs : List Prop} (hp : pureOp op = true) (h : evOp T x ev m op = .ok tv m' obs) : m' = m := by
  cases op <;> first | (cases hp; done) | (simp only [evOp] at h)
  case move => rw [forceTV_eq] at h; exact (ok_inj h).2.1
  case assign => rw [forceTV_eq] at h; exact (ok_inj h).2.1
  case pick =>
    unfold evPick at h
    repeat' split at h
    all_goals first | (cases h; done) | exact (okB_inj h).2.1
  case load =>
    unfold evLoad at h
    split at h
    rotate_left
    · cases h
    split at h
    · exact part_m h
    · split at h
      · cases h
      · split at h
        · exact whole_m h
        · rw [forceV_eq] at h; exact part_m h
    · split at h
      · cases h
      · split at h
        · exact whole_m h
        · rw [forceV_eq] at h; exact part_m h
    · cases h
  case fieldAddr =>
    unfold evFieldAddr at h
    repeat' split at h
    all_goals first | (cases h; done) | exact (okP_inj h).2.1
  case field =>
    unfold evField at h
    split at h
    rotate_left
    · cases h
    split at h
    rotate_left
    · cases h
    split at h
    rotate_left
    · cases h
    split at h
    rotate_left
    · cases h
    exact part_m h
  case indexAddr =>
    unfold evIndexAddr at h
    repeat' split at h
    all_goals first | (cases h; done) | exact (okP_inj h).2.1
  case index =>
    unfold evIndex at h
    split at h
    · split at h
      rotate_left
      · cases h
      split at h
      rotate_left
      · cases h
      exact part_m h
    · split at h
      · exact (okI_inj h).2.1
      · cases h
    · cases h
  case extract =>
    unfold evExtract at h
    split at h
    rotate_left
    · cases h
    split at h
    · rw [forceAV_eq] at h; exact (ok_inj h).2.1
    · cases h
  case binOp =>
    unfold evBin at h
    repeat' split at h
    all_goals first | (cases h; done) | exact evInt_m h | exact (okB_inj h).2.1
  case unOp =>
    unfold evUn at h
    repeat' split at h
    all_goals first | (cases h; done) | exact (okB_inj h).2.1 | exact (okI_inj h).2.1
  case convert =>
    unfold evConv at h
    repeat' split at h
    all_goals first | (cases h; done) | exact (okI_inj h).2.1
  case call =>
    unfold evCall at h
    split at h
    · split at h
      · unfold evLen at h
        repeat' split at h
        all_goals first | (cases h; done) | exact (okI_inj h).2.1
      · cases h
    · repeat' split at h
      all_goals first | (cases h; done) | exact (okI_inj h).2.1
    · repeat' split at h
      all_goals first | (cases h; done) | exact (okI_inj h).2.1
    · cases h
  case nilCheck =>
    unfold evNil at h
    split at h
    · exact (okP_inj h).2.1
    · cases h
  case build => exact build_m h

def condB (want b : Bool) : Bool := match want with | true => b | false => !b
/-- Whether an operation under guard (j, want) runs. -/
def guardB (ops : Array Oper) (t : Nat → TV) (j : Nat) (want : Bool) : Option Bool := match ops.toList[j]? with
  | some o => match o.dst with
    | some d => match t d with
      | .v (.c (.k (.bool b))) => some (condB want b)
      | .grd _ _ bg (.c (.k (.bool b))) => some (bg && condB want b)
      | _ => none
    | none => none
  | none => none
theorem yielded_at {a : Act} {ops : Array Oper} {j d : Nat} {o : Oper} (ho : ops.toList[j]? = some o) (hd : o.dst = some d) : yielded ops a.tmps j = (match a.tmps.getD d undef with
    | .bool b => some b
    | _ => none) := by
  rw [Array.getElem?_toList] at ho
  unfold yielded
  rw [ho]
  simp only [Option.bind_some, hd]
  rw [Array.getD_eq_getD_getElem?]
  cases hx : a.tmps[d]? with
  | none => rfl
  | some v => cases v <;> rfl
theorem wanted_cond {ρ : Val} {a : Act} {w : World} (h : Sat E ρ st a w) {o : Oper} {j : Nat} {want c : Bool} (hgd : o.guard = some (j, want)) (hg : guardB ops st.t j want = some c) : Region.wanted o (yielded ops a.tmps) = c := by
  unfold guardB at hg
  split at hg
  rotate_left
  · cases hg
  rename_i o' ho
  split at hg
  rotate_left
  · cases hg
  rename_i d hd
  have hy := yielded_at (a := a) ho hd
  have htm := h.tm d
  simp only [Region.wanted, hgd]
  split at hg
  · rename_i b' hb
    injection hg with hg
    subst hg
    rw [hb] at htm
    have hv : a.tmps.getD d undef = .bool b' := htm.2
    rw [hv] at hy
    rw [hy]
    cases want <;> cases b' <;> rfl
  · rename_i j' w' bg b' hb
    injection hg with hg
    subst hg
    rw [hb] at htm
    cases bg with
    | true =>
      have hv : a.tmps.getD d undef = .bool b' := (htm.1 rfl).2
      rw [hv] at hy
      rw [hy]
      cases want <;> cases b' <;> rfl
    | false =>
      have hv : a.tmps.getD d undef = undef := htm.2 rfl
      rw [hv] at hy
      rw [hy]
      cases want <;> rfl
  · cases hg

def slotsOf (l : List Operand) : List Nat := match l with
  | [] => []
  | .tmp t :: r => t :: slotsOf r
  | _ :: r => slotsOf r
def elemN (x : Nat) : List Nat → Bool
  | [] => false
  | y :: r => Nat.beq x y || elemN x r
def sameB (a b : Bool) : Bool := match a, b with | true, true => true | false, false => true | _, _ => false
/-- a slot's value for an operation under guard (j, want) -/
def strip (j : Nat) (want : Bool) (tv : TV) : TV := match tv with
  | .grd j' w' b a => bif Nat.beq j j' && sameB want w' then .v a else .grd j' w' b a
  | tv => tv
def stripObs (t : Nat → TV) (j : Nat) (want cb : Bool) (l : List Nat) : List Prop := match l with
  | [] => []
  | s :: r => match t s with
    | .grd j' w' b a => match Nat.beq j j' && sameB want w' with
      | true => (cb = true → b = true) :: stripObs t j want cb r
      | false => stripObs t j want cb r
    | _ => stripObs t j want cb r
def evG (t : Nat → TV) (j : Nat) (want : Bool) (slots : List Nat) : Operand → TV
  | .tmp s => bif elemN s slots then strip j want (t s) else .unk
  | x => evT t x
def obsIf (cb : Bool) : List Prop → List Prop
  | [] => []
  | p :: r => (cb = true → p) :: obsIf cb r
theorem AllP_obsIf {cb : Bool} {l : List Prop} (h : AllP (obsIf cb l)) (hc : cb = true) : AllP l := by
  induction l with
  | nil => trivial
  | cons p r ih => exact ⟨h.1 hc, ih h.2⟩
theorem AllP_append {l r : List Prop} : AllP (l ++ r) ↔ AllP l ∧ AllP r := by
  induction l with
  | nil => exact ⟨fun h => ⟨trivial, h⟩, fun h => h.2⟩
  | cons p l ih => exact ⟨fun h => ⟨⟨h.1, (ih.1 h.2).1⟩, (ih.1 h.2).2⟩, fun h => ⟨h.1.1, ih.2 ⟨h.1.2, h.2⟩⟩⟩
theorem evG_rep {ρ : Val} {a : Act} {w : World} (h : Sat E ρ st a w) {j : Nat} {want cb : Bool} {slots : List Nat} (ho : AllP (stripObs st.t j want cb slots)) (hc : cb = true) (y : Operand) : (evG st.t j want slots y).rep ρ st.m (a.eval y) := by
  cases y with
  | tmp t =>
    have key : ∀ slots, AllP (stripObs st.t j want cb slots) → elemN t slots = true → (strip j want (st.t t)).rep ρ st.m (a.eval (.tmp t)) := by
      intro slots
      induction slots with
      | nil => intro _ h; cases h
      | cons s r ih =>
        intro ho he
        cases hb : Nat.beq t s with
        | false =>
          simp only [elemN, hb, Bool.false_or] at he
          refine ih ?_ he
          simp only [stripObs] at ho
          split at ho
          · split at ho
            · exact ho.2
            · exact ho
          · exact ho
        | true =>
          have := Nat.eq_of_beq_eq_true hb
          subst this
          have hr := h.eval (.tmp t)
          change (st.t t).rep ρ st.m _ at hr
          simp only [stripObs] at ho
          unfold strip
          split
          · rename_i j' w' b a' ht
            rw [ht] at ho hr
            cases hm : (Nat.beq j j' && sameB want w') with
            | true =>
              simp only [hm] at ho
              exact hr.1 (ho.1 hc)
            | false => exact hr
          · exact hr
    show (bif elemN t slots then strip j want (st.t t) else .unk).rep ρ st.m _
    cases he : elemN t slots with
    | true => exact key slots ho he
    | false => trivial
  | const v => exact h.eval (.const v)
  | global g => exact h.eval (.global g)
  | func f => exact h.eval (.func f)

def wrapG (j : Nat) (want cb : Bool) (m : Nat → Option Blk) (ob1 : List Prop) (r : RR) : RR := match r with
  | .ok (.v a) _ ob => .ok (.grd j want cb a) m (ob1 ++ obsIf cb ob)
  | _ => .bad
def stepE (T : Tab) (N : Nat) (ops : Array Oper) (t : Nat → TV) (m : Nat → Option Blk) (o : Oper) : RR := match dstOk N o.dst with
  | false => .bad
  | true => match o.guard with
    | none => match o.dst with
      | some d => evOp T d (evT t) m o.op
      | none => evOp T 999 (evT t) m o.op
    | some (j, want) => match guardB ops t j want, pureOp o.op with
      | some cb, true => wrapG j want cb m (stripObs t j want cb (slotsOf o.op.operands.toList)) (evOp T 999 (evG t j want (slotsOf o.op.operands.toList)) m o.op)
      | _, _ => .bad
theorem Snd.go {ρ : Val} {a : Act} {w : World} {o : Oper} {tv : TV} {m' : Nat → Option Blk} (hs : Sat E ρ st a w) (hd : ∀ n, o.dst = some n → n < E.N) (h : Snd P E ρ st.m w a.eval o tv m') {Kc : Act → World → Prop} {Q : Exit → Act → World → Prop}
    (hk : ∀ ρ' a' w', Sat E ρ' ⟨putT st.t o.dst tv, m'⟩ a' w' → Kc a' w') : o.wp P a w Kc Q := by
  obtain ⟨n, w', ρ', hr, hn, hm, h1, h2⟩ := h
  have hmv := hs.move hm h1 h2
  unfold Oper.wp
  rw [hr]
  rcases hn with ⟨v, rfl, hv⟩ | ⟨rfl, rfl⟩
  · exact hk ρ' _ w' (hmv.putT hd hv)
  · exact hk ρ' _ w' (hmv.putT hd (tv := .unk) trivial)

theorem GO.step (hT : Tab.fine P T) {o : Oper} {tv : TV} {m' : Nat → Option Blk} {obs : List Prop} (h : stepE T E.N ops st.t st.m o = .ok tv m' obs) (ho : AllP obs) (k : GO P E ops K rest ⟨putT st.t o.dst tv, m'⟩) : GO P E ops K (o :: rest) st := by
  intro ρ a w hs
  unfold stepE at h
  split at h
  · cases h
  rename_i hdst
  have hd := dstOk_lt hdst
  split at h
  · rename_i hg
    unfold wpList
    rw [if_pos (by simp [Region.wanted, hg])]
    split at h
    · exact .inl (Snd.go hs hd (evOp_sound hT hs.mem (fun _ => rfl) hs.eval rfl h ho) fun ρ' a' w' hs' => k ρ' a' w' hs')
    · exact .inl (Snd.go hs hd (evOp_sound hT hs.mem (fun _ => rfl) hs.eval rfl h ho) fun ρ' a' w' hs' => k ρ' a' w' hs')
  · rename_i j want hg
    split at h
    · rename_i cb hb hp
      have hw := wanted_cond (ops := ops) hs hg hb
      unfold wrapG at h
      split at h
      · rename_i av m1 ob he
        obtain ⟨rfl, rfl, rfl⟩ := ok_inj h
        rw [AllP_append] at ho
        have hm1 := evOp_pure hp he
        subst hm1
        unfold wpList
        rw [hw]
        cases hcb : cb with
        | true =>
          subst hcb
          rw [if_pos rfl]
          have hsnd := evOp_sound (P := P) (E := E) (o := o) hT hs.mem (fun _ => rfl) (evG_rep hs ho.1 rfl) rfl he (AllP_obsIf ho.2 rfl)
          refine .inl (Snd.go hs hd (tv := .grd j want true av) ?_ fun ρ' a' w' hs' => k ρ' a' w' hs')
          obtain ⟨n, w', ρ', h1, h2, h3, h4, h5⟩ := hsnd
          refine ⟨n, w', ρ', h1, ?_, h3, h4, h5⟩
          rcases h2 with ⟨v, hn, hv⟩ | ⟨_, hn⟩
          · exact .inl ⟨v, hn, fun _ => hv, fun hf => (by cases hf)⟩
          · cases hn
        | false =>
          subst hcb
          rw [if_neg (by simp)]
          have := hs.putT hd (tv := .grd j want false av) (v := undef) ⟨fun ht => (by cases ht), fun _ => rfl⟩
          exact k ρ _ w this
      · cases h
    · cases h

/-- obligations, put together so that none leaves no trace -/
def app (ob obs : List Prop) : List Prop := match ob with
  | [] => obs
  | p :: r => p :: app r obs
theorem app_eq (ob obs : List Prop) : app ob obs = ob ++ obs := by
  induction ob with
  | nil => rfl
  | cons p r ih => simp [app, ih]
def forceO (l : List Prop) {α : Type} (Kf : List Prop → α) : α := match l with
  | [] => Kf []
  | p :: r => forceO r fun r => Kf (p :: r)
theorem forceO_eq (l : List Prop) {α : Type} (Kf : List Prop → α) : forceO l Kf = Kf l := by
  induction l generalizing Kf with
  | nil => rfl
  | cons p r ih => rw [forceO, ih]
inductive RS where
  | bad
  | mk (t : Nat → TV) (m : Nat → Option Blk) (rest : List Oper) (obs : List Prop)
def runOps (T : Tab) (N : Nat) (ops : Array Oper) : List Oper → (Nat → TV) → (Nat → Option Blk) → List Prop → RS
  | [], t, m, obs => .mk t m [] obs
  | o :: r, t, m, obs => match stepE T N ops t m o with
    | .bad => .mk t m (o :: r) obs
    | .ok tv m' ob => match o.dst with
      | some d => forceO (app ob obs) fun obs => runOps T N ops r (up t d tv) m' obs
      | none => forceO (app ob obs) fun obs => runOps T N ops r t m' obs
theorem runOps_cons {N : Nat} {o : Oper} {r : List Oper} {t : Nat → TV} {m : Nat → Option Blk} {obs : List Prop} : runOps T N ops (o :: r) t m obs = match stepE T N ops t m o with
    | .bad => .mk t m (o :: r) obs
    | .ok tv m' ob => runOps T N ops r (putT t o.dst tv) m' (ob ++ obs) := by
  rw [runOps]
  split
  · rfl
  · simp only [forceO_eq, app_eq]
    cases o.dst <;> rfl
theorem runOps_ob {N : Nat} {l : List Oper} {t t' : Nat → TV} {m m' : Nat → Option Blk} {obs obs' : List Prop} {rest' : List Oper} (h : runOps T N ops l t m obs = .mk t' m' rest' obs') (ho : AllP obs') : AllP obs := by
  induction l generalizing t m obs with
  | nil => injection h with _ _ _ h; subst h; exact ho
  | cons o r ih =>
    rw [runOps_cons] at h
    split at h
    · injection h with _ _ _ h; subst h; exact ho
    · exact (AllP_append.1 (ih h)).2
theorem GO.run (hT : Tab.fine P T) {obs obs' : List Prop} {t t' : Nat → TV} {m m' : Nat → Option Blk} {rest' : List Oper} (h : runOps T E.N ops rest t m obs = .mk t' m' rest' obs') (ho : AllP obs') (k : GO P E ops K rest' ⟨t', m'⟩) : GO P E ops K rest ⟨t, m⟩ := by
  induction rest generalizing t m obs with
  | nil => injection h with h1 h2 h3 h4; subst h1; subst h2; subst h3; exact k
  | cons o r ih =>
    rw [runOps_cons] at h
    split at h
    · injection h with h1 h2 h3 h4; subst h1; subst h2; subst h3; exact k
    · rename_i tv m1 ob he
      exact GO.step hT he (AllP_append.1 (runOps_ob h ho)).1 (ih h)
/-- A region without calls, and what follows. -/
theorem G.seqR (hT : Tab.fine P T) {id : Nat} {l : List Oper} {y : Code} {t t' : Nat → TV} {m m' : Nat → Option Blk} {obs : List Prop} (h : runOps T E.N l.toArray l t m [] = .mk t' m' [] obs) (ho : AllP obs) (k : G P E K y ⟨t', m'⟩) : G P E K (.seq (.region id l.toArray false) y) ⟨t, m⟩ :=
  G.seq (G.region_lit (GO.run hT h ho (GO.nil k)))
theorem G.reg (hT : Tab.fine P T) {id : Nat} {l : List Oper} {t t' : Nat → TV} {m m' : Nat → Option Blk} {obs : List Prop} (h : runOps T E.N l.toArray l t m [] = .mk t' m' [] obs) (ho : AllP obs) (k : K .normal ⟨t', m'⟩) : G P E K (.region id l.toArray false) ⟨t, m⟩ :=
  G.region_lit (GO.run hT h ho (GO.nil k))
/-- The same up to a call. -/
theorem G.seqC (hT : Tab.fine P T) {id : Nat} {l : List Oper} {y : Code} {t t' : Nat → TV} {m m' : Nat → Option Blk} {rest' : List Oper} {obs : List Prop} (h : runOps T E.N l.toArray l t m [] = .mk t' m' rest' obs) (ho : AllP obs) (k : GO P E l.toArray (thenK (G P E K y) K) rest' ⟨t', m'⟩) : G P E K (.seq (.region id l.toArray false) y) ⟨t, m⟩ :=
  G.seq (G.region_lit (GO.run hT h ho k))
theorem G.regC (hT : Tab.fine P T) {id : Nat} {l : List Oper} {t t' : Nat → TV} {m m' : Nat → Option Blk} {rest' : List Oper} {obs : List Prop} (h : runOps T E.N l.toArray l t m [] = .mk t' m' rest' obs) (ho : AllP obs) (k : GO P E l.toArray K rest' ⟨t', m'⟩) : G P E K (.region id l.toArray false) ⟨t, m⟩ :=
  G.region_lit (GO.run hT h ho k)
/-- What is left of a region behind a call. -/
theorem GO.fin (hT : Tab.fine P T) {t t' : Nat → TV} {m m' : Nat → Option Blk} {obs : List Prop} (h : runOps T E.N ops rest t m [] = .mk t' m' [] obs) (ho : AllP obs) (k : K .normal ⟨t', m'⟩) : GO P E ops K rest ⟨t, m⟩ :=
  GO.run hT h ho (GO.nil k)
theorem GO.more (hT : Tab.fine P T) {t t' : Nat → TV} {m m' : Nat → Option Blk} {rest' : List Oper} {obs : List Prop} (h : runOps T E.N ops rest t m [] = .mk t' m' rest' obs) (ho : AllP obs) (k : GO P E ops K rest' ⟨t', m'⟩) : GO P E ops K rest ⟨t, m⟩ :=
  GO.run hT h ho k
end
end Go.Sx
