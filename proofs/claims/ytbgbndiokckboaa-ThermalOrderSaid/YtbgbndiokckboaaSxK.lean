/- The symbolic executor, part K: a region that draws its order. Each operation is shown once, from a state that says only what stands before it in every order; the result is that of the text's order. Generic over P. -/
import Derived.Test.YtbgbndiokckboaaSxJ
import Derived.Orders
set_option linter.unusedVariables false
set_option linter.unusedSimpArgs false
namespace Go.Sx
open Go.RowKit
structure DR where
  o : Oper
  tv : TV
  ms : List (Nat × Blk)
def dstIs (o : Oper) (j : Nat) : Bool := match o.dst with
  | some d => Nat.beq d j
  | none => false
def gT (j : Nat) (r : DR) : Option TV := bif dstIs r.o j then some r.tv else none
def gM (x : Nat) (r : DR) : Option (Option Blk) := match mget r.ms x with
  | some b => some (some b)
  | none => none
/-- what the operations of D have left, the last of the text first -/
def atR {β : Type} (D : Nat → Bool) (g : DR → Option β) : List DR → β → β
  | [], b => b
  | r :: l, b => match D l.length with
    | true => match g r with
      | some v => v
      | none => atR D g l b
    | false => atR D g l b
def stD (D : Nat → Bool) (base : St) (l : List DR) : St := ⟨fun j => atR D (gT j) l (base.t j), fun x => atR D (gM x) l (base.m x)⟩
theorem atR_agree {β : Type} {D D' : Nat → Bool} {g : DR → Option β} {b : β} {l : List DR} (h : ∀ post r pre, l = post ++ r :: pre → (g r).isSome = true → D pre.length = D' pre.length) : atR D g l b = atR D' g l b := by
  induction l with
  | nil => rfl
  | cons r l ih =>
    have hi := ih fun post r' pre e hs => h (r :: post) r' pre (by rw [e]; rfl) hs
    simp only [atR]
    cases hg : g r with
    | none =>
      simp only [hi]
      cases D l.length <;> cases D' l.length <;> rfl
    | some v =>
      rw [h [] r l rfl (by rw [hg]; rfl), hi]
theorem atR_insert {β : Type} {D D' : Nat → Bool} {g : DR → Option β} {b : β} {r : DR} {pre : List DR} (hD : D pre.length = false) (hD' : ∀ k, D' k = (Nat.beq k pre.length || D k)) {post : List DR}
    (h : ∀ p1 r' p2, post = p1 ++ r' :: p2 → D (p2 ++ r :: pre).length = true → (g r).isSome = true → g r' = none) :
    atR D' g (post ++ r :: pre) b = match g r with
      | some v => v
      | none => atR D g (post ++ r :: pre) b := by
  induction post with
  | nil =>
    have h1 : D' pre.length = true := by rw [hD']; simp
    simp only [List.nil_append, atR, h1, hD]
    cases hg : g r with
    | some v => rfl
    | none =>
      refine atR_agree fun p1 r' p2 e _ => ?_
      rw [hD']
      have : Nat.beq p2.length pre.length = false := by
        cases hb : Nat.beq p2.length pre.length with
        | false => rfl
        | true =>
          have := Nat.eq_of_beq_eq_true hb
          rw [e] at this
          simp at this
          omega
      rw [this]
      rfl
  | cons r' post ih =>
    have hi := ih fun p1 r'' p2 e => h (r' :: p1) r'' p2 (by rw [e]; rfl)
    have h1 : D' (post ++ r :: pre).length = D (post ++ r :: pre).length := by
      rw [hD']
      have : Nat.beq (post ++ r :: pre).length pre.length = false := by
        cases hb : Nat.beq (post ++ r :: pre).length pre.length with
        | false => rfl
        | true =>
          have := Nat.eq_of_beq_eq_true hb
          simp at this
          omega
      rw [this]
      rfl
    simp only [List.cons_append, atR, h1]
    cases hd : D (post ++ r :: pre).length with
    | false => exact hi
    | true =>
      cases hg : g r with
      | none =>
        rw [hg] at hi
        simp only at hi
        simp only [hi]
      | some v =>
        rw [h [] r' post rfl hd (by rw [hg]; rfl)]
        rw [hg] at hi
        exact hi

/-! ### Which operations come before which -/
theorem getD_out {l : List Nat} {i : Nat} (h : l.length ≤ i) : l.getD i 0 = 0 := by
  rw [List.getD_eq_getElem?_getD, List.getElem?_eq_none h]; rfl
theorem getD_app {l r : List Nat} {i : Nat} (h : i < l.length) : (l ++ r).getD i 0 = l.getD i 0 := by
  rw [List.getD_eq_getElem?_getD, List.getD_eq_getElem?_getD, List.getElem?_append_left h]
theorem getD_one {l : List Nat} {n : Nat} : (l ++ [n]).getD l.length 0 = n := by
  rw [List.getD_eq_getElem?_getD, List.getElem?_append_right (Nat.le_refl _)]; simp
def orAll (acc : List Nat) : List Edge → Nat
  | [] => 0
  | e :: r => bif Region.binds .any e then Nat.lor (Nat.lor (Nat.shiftLeft 1 e.on) (acc.getD e.on 0)) (orAll acc r) else orAll acc r
def clGo (acc : List Nat) : List Oper → List Nat
  | [] => acc
  | o :: r => clGo (acc ++ [orAll acc o.after.toList]) r
def Clo (l : List Oper) (D : Nat → Bool) : Prop := ∀ i o, l[i]? = some o → D i = true → ∀ e ∈ o.after.toList, Region.binds .any e = true → D e.on = true
def Pred (l : List Oper) (cls : List Nat) : Prop := ∀ (D : Nat → Bool) i o, l[i]? = some o → (∀ e ∈ o.after.toList, Region.binds .any e = true → D e.on = true) → Clo l D → ∀ k, (cls.getD i 0).testBit k = true → D k = true
theorem orAll_bit {D : Nat → Bool} {acc : List Nat} (hacc : ∀ i, i < acc.length → D i = true → ∀ k, (acc.getD i 0).testBit k = true → D k = true) {es : List Edge} (hes : ∀ e ∈ es, Region.binds .any e = true → D e.on = true) {k : Nat} (h : (orAll acc es).testBit k = true) : D k = true := by
  induction es with
  | nil => simp [orAll] at h
  | cons e r ih =>
    have hr := ih fun e' he' => hes e' (List.mem_cons_of_mem _ he')
    simp only [orAll] at h
    cases hb : Region.binds .any e with
    | false => rw [hb] at h; exact hr h
    | true =>
      rw [hb] at h
      simp only [cond_true] at h
      have h' : ((1 <<< e.on ||| acc.getD e.on 0) ||| orAll acc r).testBit k = true := h
      rw [Nat.testBit_or, Nat.testBit_or, Bool.or_eq_true, Bool.or_eq_true] at h'
      have hD := hes e List.mem_cons_self hb
      rcases h' with (h' | h') | h'
      · have : k = e.on := by
          rw [Nat.testBit_shiftLeft] at h'
          simp only [ge_iff_le, Bool.and_eq_true, decide_eq_true_eq] at h'
          have h0 := Nat.testBit_one_eq_true_iff_self_eq_zero.1 h'.2
          omega
        rw [this]; exact hD
      · by_cases hl : e.on < acc.length
        · exact hacc _ hl hD k h'
        · rw [getD_out (by omega)] at h'
          simp at h'
      · exact hr h'
theorem clGo_pred {l : List Oper} : ∀ (r : List Oper) (acc : List Nat) (pre : List Oper), l = pre ++ r → acc.length = pre.length →
    (∀ (D : Nat → Bool), Clo l D → ∀ i o, i < acc.length → l[i]? = some o → (∀ e ∈ o.after.toList, Region.binds .any e = true → D e.on = true) → ∀ k, (acc.getD i 0).testBit k = true → D k = true) → Pred l (clGo acc r) := by
  intro r
  induction r with
  | nil =>
    intro acc pre hl hlen h D i o ho he hc k hk
    by_cases hi : i < acc.length
    · exact h D hc i o hi ho he k hk
    · rw [clGo, getD_out (by omega)] at hk
      simp at hk
  | cons o r ih =>
    intro acc pre hl hlen h
    refine ih _ (pre ++ [o]) (by simp [hl]) (by simp [hlen]) ?_
    intro D hc i o' hi ho' he k hk
    simp only [List.length_append, List.length_singleton] at hi
    by_cases e : i < acc.length
    · refine h D hc i o' e ho' he k ?_
      rw [getD_app e] at hk
      exact hk
    · have ei : i = acc.length := by omega
      subst ei
      have : o' = o := by
        rw [hl, hlen] at ho'
        simp at ho'
        exact ho'.symm
      subst this
      rw [getD_one] at hk
      refine orAll_bit (D := D) (fun i hi hDi k hk => ?_) he hk
      obtain ⟨oi, hoi⟩ : ∃ oi, l[i]? = some oi := by
        have : i < l.length := by rw [hl]; simp; omega
        exact ⟨l[i], List.getElem?_eq_getElem this⟩
      exact h D hc i oi hi hoi (hc i oi hoi hDi) k hk
theorem clGo_spec (l : List Oper) : Pred l (clGo [] l) := clGo_pred l [] [] rfl rfl fun D hc i o hi => by simp at hi

def tb (m n : Nat) : Bool := Nat.beq (Nat.land (Nat.shiftRight m n) 1) 1
theorem tb_eq (m n : Nat) : tb m n = m.testBit n := by
  unfold tb Nat.testBit
  show Nat.beq ((m >>> n) &&& 1) 1 = ((1 &&& (m >>> n)) != 0)
  rw [Nat.and_comm 1, Nat.and_one_is_mod]
  have := Nat.mod_lt (m >>> n) (show 0 < 2 by omega)
  generalize (m >>> n) % 2 = k at *
  match k, this with
  | 0, _ => rfl
  | 1, _ => rfl
def inU (cls : List Nat) (i k : Nat) : Bool := !(Nat.beq i k) && (!(tb (cls.getD i 0) k) && !(tb (cls.getD k 0) i))
def memU (f : Nat → Oper → Bool) (cls : List Nat) (i : Nat) : Nat → List Oper → Bool
  | _, [] => false
  | k, o :: r => (inU cls i k && f k o) || memU f cls i (k + 1) r
theorem memU_false {f : Nat → Oper → Bool} {cls : List Nat} {i : Nat} {l : List Oper} {k0 : Nat} (h : memU f cls i k0 l = false) {k : Nat} {o : Oper} (ho : l[k]? = some o) (hu : inU cls i (k0 + k) = true) : f (k0 + k) o = false := by
  induction l generalizing k0 k with
  | nil => simp at ho
  | cons a r ih =>
    simp only [memU, Bool.or_eq_false_iff, Bool.and_eq_false_iff] at h
    cases k with
    | zero =>
      simp at ho
      subst ho
      rcases h.1 with h1 | h1
      · rw [Nat.add_zero] at hu; rw [hu] at h1; cases h1
      · exact h1
    | succ k =>
      have := ih (k0 := k0 + 1) (k := k) h.2 (by simpa using ho) (by rw [show k0 + 1 + k = k0 + (k + 1) by omega]; exact hu)
      rw [show k0 + (k + 1) = k0 + 1 + k by omega]
      exact this
/-- the names of blocks that operation k may turn -/
def Wn (X : List (Nat × Nat)) (k : Nat) (o : Oper) (x : Nat) : Bool := (match o.op with
  | .alloc _ | .box .. | .buildSlice .. => dstIs o x
  | _ => false) || inX X k x
  where inX : List (Nat × Nat) → Nat → Nat → Bool
  | [], _, _ => false
  | p :: r, k, x => (Nat.beq p.1 k && Nat.beq p.2 x) || inX r k x
def dx (o : Oper) : Nat := match o.dst with
  | some d => d
  | none => 999
def can (l : List Oper) (cls : List Nat) (X : List (Nat × Nat)) (base : St) (recs : List DR) : St :=
  ⟨fun j => match memU (fun _ o => dstIs o j) cls recs.length 0 l with
    | true => .unk
    | false => atR (fun k => tb (cls.getD recs.length 0) k) (gT j) recs (base.t j),
   fun x => match memU (fun k o => Wn X k o x) cls recs.length 0 l with
    | true => none
    | false => atR (fun k => tb (cls.getD recs.length 0) k) (gM x) recs (base.m x)⟩

structure Le (x : Nat) (C st : St) : Prop where
  t : ∀ j, C.t j = .unk ∨ st.t j = C.t j
  m : ∀ y, C.m y = none ∨ st.m y = C.m y
  d : st.m x = C.m x
section
variable {P : Program} {E : Env} {K : Exit → St → Prop} {T : Tab}
def Steps (P : Program) (E : Env) (ops : Array Oper) (o : Oper) (C : St) (tv : TV) (ms : List (Nat × Blk)) : Prop :=
  ∀ st, Le (dx o) C st → ∀ ρ a w, Sat E ρ st a w → ∀ (Kc : Act → World → Prop) (Q : Exit → Act → World → Prop), (∀ ρ' a' w', Sat E ρ' ⟨putT st.t o.dst tv, upm st.m ms⟩ a' w' → Kc a' w') →
    if Region.wanted o (yielded ops a.tmps) = true then o.wp P a w Kc Q else Kc (a.put o.dst undef) w
theorem Sat.weakT {ρ : Val} {st : St} {a : Act} {w : World} (h : Sat E ρ st a w) {t : Nat → TV} (ht : ∀ j, t j = .unk ∨ st.t j = t j) : Sat E ρ ⟨t, st.m⟩ a w :=
  ⟨h.mem, h.df, h.sz, fun j => by
    rcases ht j with e | e
    · show (t j).rep _ _ _
      rw [e]; trivial
    · show (t j).rep _ _ _
      rw [← e]; exact h.tm j⟩
def msS (C : St) (o : Oper) (m' : Mem) : List (Nat × Blk) := match o.guard with
  | none => msOf (evT C.t) (dx o) o.op m'
  | some _ => []
theorem Steps.op (hT : Tab.fine P T) {ops : Array Oper} {o : Oper} {C : St} {tv : TV} {m' : Mem} {obs : List Prop} (h : stepE T E.N ops C.t C.m o = .ok tv m' obs) (ho : AllP obs) : Steps P E ops o C tv (msS C o m') := by
  intro st hle ρ a w hs Kc Q hk
  have hs' := hs.weakT hle.t
  unfold stepE at h
  split at h
  · cases h
  rename_i hdst
  have hd := dstOk_lt hdst
  split at h
  · rename_i hg
    rw [if_pos (by simp [Region.wanted, hg])]
    have hms : msS C o m' = msOf (evT C.t) (dx o) o.op m' := by rw [msS, hg]
    have hev : evOp T (dx o) (evT C.t) C.m o.op = .ok tv m' obs := by
      split at h
      · rename_i d hdd; rw [dx, hdd]; exact h
      · rename_i hdd; rw [dx, hdd]; exact h
    have hsnd := evOp_sound (P := P) (E := E) hT hs.mem (fun _ => rfl) hs'.eval rfl (evOp_mem hle.m hle.d hev) ho
    rw [hms] at hk
    exact Snd.go hs hd hsnd fun ρ' a' w' hs'' => hk ρ' a' w' hs''
  · rename_i j want hg
    have hms : msS C o m' = [] := by rw [msS, hg]
    rw [hms] at hk
    split at h
    · rename_i cb hb hp
      have hw := wanted_cond (ops := ops) hs' hg hb
      unfold wrapG at h
      split at h
      · rename_i av m1 ob he
        obtain ⟨rfl, rfl, rfl⟩ := ok_inj h
        rw [AllP_append] at ho
        have hm1 := evOp_pure hp he
        rw [hw]
        cases hcb : cb with
        | true =>
          subst hcb
          rw [if_pos rfl]
          have h999 : evOp T (dx o) (evG C.t j want (slotsOf o.op.operands.toList)) st.m o.op = .ok (.v av) st.m ob := by
            have e1 : evOp T 999 (evG C.t j want (slotsOf o.op.operands.toList)) C.m o.op = evOp T (dx o) (evG C.t j want (slotsOf o.op.operands.toList)) C.m o.op := by
              cases hopp : o.op <;> first
                | rfl
                | (rw [hopp] at hp; cases hp)
            rw [e1] at he
            have hnn : nameOf (evG C.t j want (slotsOf o.op.operands.toList)) (dx o) o.op = none := by
              cases hopp : o.op <;> first
                | rfl
                | (rw [hopp] at hp; cases hp)
            have := evOp_mem (m2 := st.m) hle.m hle.d he
            rw [msOf, hnn] at this
            exact this
          have hsnd := evOp_sound (P := P) (E := E) (o := o) hT hs.mem (fun _ => rfl) (evG_rep hs' ho.1 rfl) rfl h999 (AllP_obsIf ho.2 rfl)
          refine Snd.go hs hd (tv := .grd j want true av) ?_ fun ρ' a' w' hs'' => hk ρ' a' w' hs''
          obtain ⟨n, w', ρ', h1, h2, h3, h4, h5⟩ := hsnd
          refine ⟨n, w', ρ', h1, ?_, h3, h4, h5⟩
          rcases h2 with ⟨v, hn, hv⟩ | ⟨_, hn⟩
          · exact .inl ⟨v, hn, fun _ => hv, fun hf => (by cases hf)⟩
          · cases hn
        | false =>
          subst hcb
          rw [if_neg (by simp)]
          have := hs.putT hd (tv := .grd j want false av) (v := undef) ⟨fun ht => (by cases ht), fun _ => rfl⟩
          exact hk ρ _ w this
      · cases h
    · cases h
end
end Go.Sx
