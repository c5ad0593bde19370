/- The symbolic executor, part L: a region that draws its order, the law of the whole region. Generic over P. -/
import Derived.Test.YtiicemgngccicaaSxK
set_option linter.unusedVariables false
set_option linter.unusedSimpArgs false
namespace Go.Sx
open Go.RowKit
def edgesLt (i : Nat) : List Edge → Bool
  | [] => true
  | e :: r => (!Region.binds .any e || Nat.blt e.on i) && edgesLt i r
def apartOk (l0 : List Oper) (cls : List Nat) (X : List (Nat × Nat)) : Nat → List Oper → Bool
  | _, [] => true
  | i, o :: r => Nat.beq (Nat.shiftRight (cls.getD i 0) i) 0 && ((match o.dst with
    | some d => !memU (fun _ o => dstIs o d) cls i 0 l0
    | none => true) && (!memU (fun k o' => Wn X k o' (dx o)) cls i 0 l0 && (edgesLt i o.after.toList && apartOk l0 cls X (i + 1) r)))
def xOk (l0 : List Oper) (cls : List Nat) (X : List (Nat × Nat)) : List (Nat × Nat) → Bool
  | [] => true
  | p :: r => !memU (fun k o' => Wn X k o' p.2) cls p.1 0 l0 && xOk l0 cls X r
structure Apart (l : List Oper) (cls : List Nat) (X : List (Nat × Nat)) (i : Nat) (o : Oper) : Prop where
  lt : ∀ k, i ≤ k → tb (cls.getD i 0) k = false
  dst : ∀ d, o.dst = some d → memU (fun _ o => dstIs o d) cls i 0 l = false
  dx : memU (fun k o' => Wn X k o' (dx o)) cls i 0 l = false
  on : ∀ e ∈ o.after.toList, Region.binds .any e = true → e.on < i
theorem edgesLt_spec {i : Nat} {es : List Edge} (h : edgesLt i es = true) : ∀ e ∈ es, Region.binds .any e = true → e.on < i := by
  induction es with
  | nil => simp
  | cons e r ih =>
    simp only [edgesLt, Bool.and_eq_true, Bool.or_eq_true, Nat.blt_eq, Bool.not_eq_true'] at h
    intro e' he' hb
    cases he' with
    | head => exact h.1.resolve_left (by rw [hb]; simp)
    | tail _ he' => exact ih h.2 e' he' hb
theorem apartOk_spec {l0 l : List Oper} {cls : List Nat} {X : List (Nat × Nat)} {i0 : Nat} (h : apartOk l0 cls X i0 l = true) {i : Nat} {o : Oper} (ho : l[i]? = some o) : Apart l0 cls X (i0 + i) o := by
  induction l generalizing i0 i with
  | nil => simp at ho
  | cons a r ih =>
    simp only [apartOk, Bool.and_eq_true] at h
    obtain ⟨h1, h2, h3, h4, h5⟩ := h
    cases i with
    | succ i =>
      have := ih (i0 := i0 + 1) (i := i) h5 (by simpa using ho)
      rw [show i0 + (i + 1) = i0 + 1 + i by omega]
      exact this
    | zero =>
      simp at ho
      subst ho
      refine ⟨fun k hk => ?_, fun d hd => ?_, by simpa using h3, edgesLt_spec h4⟩
      · have h1' : (cls.getD i0 0) >>> i0 = 0 := Nat.eq_of_beq_eq_true h1
        rw [Nat.add_zero] at hk ⊢
        rw [tb_eq]
        rw [Nat.testBit, show k = i0 + (k - i0) by omega, Nat.shiftRight_add, h1']
        simp
      · rw [hd] at h2
        simpa using h2
theorem xOk_spec {l0 : List Oper} {cls : List Nat} {X Y : List (Nat × Nat)} (h : xOk l0 cls X Y = true) {k x : Nat} (hk : Wn.inX Y k x = true) : memU (fun k o' => Wn X k o' x) cls k 0 l0 = false := by
  induction Y with
  | nil => cases hk
  | cons p r ih =>
    simp only [xOk, Bool.and_eq_true] at h
    simp only [Wn.inX, Bool.or_eq_true, Bool.and_eq_true] at hk
    rcases hk with ⟨h1, h2⟩ | hk
    · have h1 := Nat.eq_of_beq_eq_true h1
      have h2 := Nat.eq_of_beq_eq_true h2
      rw [← h1, ← h2]
      simpa using h.1
    · exact ih h.2 hk
theorem dstIs_eq {o : Oper} {j : Nat} (h : dstIs o j = true) : o.dst = some j := by
  unfold dstIs at h
  split at h
  · rename_i d hd
    rw [hd, Nat.eq_of_beq_eq_true h]
  · cases h
theorem Wn_apart {l : List Oper} {cls : List Nat} {X : List (Nat × Nat)} {i : Nat} {o : Oper} (ha : Apart l cls X i o) (hx : xOk l cls X X = true) {x : Nat} (h : Wn X i o x = true) : memU (fun k o' => Wn X k o' x) cls i 0 l = false := by
  unfold Wn at h
  rw [Bool.or_eq_true] at h
  rcases h with h | h
  · have : dstIs o x = true := by
      split at h <;> first
        | exact h
        | cases h
    have := dstIs_eq this
    have e : dx o = x := by rw [dx, this]
    rw [← e]
    exact ha.dx
  · exact xOk_spec hx h
theorem splitAt {β : Type} : ∀ (l : List β) (i : Nat), i < l.length → ∃ post r pre, l = post ++ r :: pre ∧ pre.length = i := by
  intro l
  induction l with
  | nil => intro i h; simp at h
  | cons a l ih =>
    intro i h
    by_cases e : i = l.length
    · exact ⟨[], a, l, rfl, e.symm⟩
    · obtain ⟨post, r, pre, h1, h2⟩ := ih i (by simp at h; omega)
      exact ⟨a :: post, r, pre, by rw [h1]; rfl, h2⟩
section
variable {P : Program} {E : Env} {K : Exit → St → Prop} {T : Tab} {l : List Oper} {cls : List Nat} {X : List (Nat × Nat)} {base : St}
def AllSteps (P : Program) (E : Env) (l : List Oper) (cls : List Nat) (X : List (Nat × Nat)) (base : St) : List DR → Prop
  | [] => True
  | r :: pre => AllSteps P E l cls X base pre ∧ l[pre.length]? = some r.o ∧ Steps P E l.toArray r.o (can l cls X base pre) r.tv r.ms ∧ ∀ x, (mget r.ms x).isSome = true → Wn X pre.length r.o x = true
theorem AllSteps.at {recs post pre : List DR} {r : DR} (h : AllSteps P E l cls X base recs) (e : recs = post ++ r :: pre) :
    l[pre.length]? = some r.o ∧ Steps P E l.toArray r.o (can l cls X base pre) r.tv r.ms ∧ ∀ x, (mget r.ms x).isSome = true → Wn X pre.length r.o x = true := by
  induction post generalizing recs with
  | nil => subst e; exact h.2
  | cons a post ih => subst e; exact ih h.1 rfl
theorem inU_of {D : Nat → Bool} (hp : Pred l cls) (hc : Clo l D) {i j : Nat} {oi oj : Oper} (hoi : l[i]? = some oi) (hoj : l[j]? = some oj) (hDi : D i = false) (hDj : D j = true) (ht : tb (cls.getD i 0) j = false) : inU cls i j = true := by
  unfold inU
  have h1 : Nat.beq i j = false := by
    cases hb : Nat.beq i j with
    | false => rfl
    | true =>
      have := Nat.eq_of_beq_eq_true hb
      subst this
      rw [hDi] at hDj; cases hDj
  have h2 : tb (cls.getD j 0) i = false := by
    cases hb : tb (cls.getD j 0) i with
    | false => rfl
    | true =>
      rw [tb_eq] at hb
      have := hp D j oj hoj (fun e he hbd => hc j oj hoj hDj e he hbd) hc i hb
      rw [hDi] at this; cases this
  rw [h1, h2, ht]; rfl
/-- Where nothing unordered turns a place, it is as the operations before have left it. -/
theorem can_agree {β : Type} {g : DR → Option β} {wg : Nat → Oper → Bool} {D : Nat → Bool} {b : β} (hp : Pred l cls) (hc : Clo l D) {recs post pre : List DR} {r : DR} (e : recs = post ++ r :: pre)
    (hw : ∀ post r pre, recs = post ++ r :: pre → l[pre.length]? = some r.o ∧ ((g r).isSome = true → wg pre.length r.o = true))
    (ha : Apart l cls X pre.length r.o) (hDi : D pre.length = false) (hready : ∀ e ∈ r.o.after.toList, Region.binds .any e = true → D e.on = true) (hm : memU wg cls pre.length 0 l = false) :
    atR D g recs b = atR (fun k => tb (cls.getD pre.length 0) k) g pre b := by
  have hoi := (hw post r pre e).1
  have none_of : ∀ p1 r' p2, recs = p1 ++ r' :: p2 → D p2.length = true → tb (cls.getD pre.length 0) p2.length = false → g r' = none := by
    intro p1 r' p2 e' hd ht
    obtain ⟨hoj, hwg⟩ := hw p1 r' p2 e'
    have := memU_false (k0 := 0) hm hoj (by rw [Nat.zero_add]; exact inU_of hp hc hoi hoj hDi hd ht)
    rw [Nat.zero_add] at this
    cases hg : g r' with
    | none => rfl
    | some v => rw [hg] at hwg; rw [hwg rfl] at this; cases this
  have h1 : atR D g recs b = atR D g (r :: pre) b := by
    have : ∀ p1 post, recs = p1 ++ post ++ r :: pre → atR D g (post ++ r :: pre) b = atR D g (r :: pre) b := by
      intro p1 post
      induction post generalizing p1 with
      | nil => intro _; rfl
      | cons r' post ih =>
        intro e2
        have hi := ih (p1 ++ [r']) (by rw [e2]; simp)
        simp only [List.cons_append, atR]
        rw [hi]
        cases hd : D (post ++ r :: pre).length with
        | false => rfl
        | true =>
          rw [none_of p1 r' (post ++ r :: pre) (by rw [e2]; simp) hd (ha.lt _ (by simp; omega))]
          rfl
    rw [e]
    exact this [] post (by rw [e]; rfl)
  rw [h1]
  simp only [atR, hDi]
  refine atR_agree fun p1 r' p2 e' hs => ?_
  cases ht : tb (cls.getD pre.length 0) p2.length with
  | true =>
    rw [tb_eq] at ht
    exact hp D _ _ hoi hready hc _ ht
  | false =>
    cases hd : D p2.length with
    | false => rfl
    | true =>
      have := none_of (post ++ r :: p1) r' p2 (by rw [e, e']; simp) hd ht
      rw [this] at hs; cases hs
def cnt (D : Nat → Bool) : Nat → Nat
  | 0 => 0
  | n + 1 => cnt D n + (match D n with | true => 0 | false => 1)
theorem cnt_zero {D : Nat → Bool} {n : Nat} (h : cnt D n = 0) : ∀ k, k < n → D k = true := by
  induction n with
  | zero => intro k hk; omega
  | succ n ih =>
    simp only [cnt] at h
    intro k hk
    by_cases e : k = n
    · subst e
      cases hd : D k with
      | true => rfl
      | false => rw [hd] at h; simp at h
    · exact ih (by omega) k (by omega)
theorem cnt_same {D D' : Nat → Bool} {n : Nat} (h : ∀ k, k < n → D k = D' k) : cnt D n = cnt D' n := by
  induction n with
  | zero => rfl
  | succ n ih => simp only [cnt, ih fun k hk => h k (by omega), h n (by omega)]
theorem cnt_set {D D' : Nat → Bool} {n i : Nat} (hi : i < n) (hD : D i = false) (hD' : D' i = true) (h : ∀ k, k ≠ i → D' k = D k) : cnt D n = cnt D' n + 1 := by
  induction n with
  | zero => omega
  | succ n ih =>
    by_cases e : i = n
    · subst e
      simp only [cnt, hD, hD']
      rw [cnt_same (D := D) (D' := D') fun k hk => (h k (by omega)).symm]
    · simp only [cnt, ih (by omega), h n (by omega)]
      omega
def lst (listed : Array Bool) (k : Nat) : Bool := listed.getD k false
theorem lst_set {listed : Array Bool} {i k : Nat} (hi : i < listed.size) : lst (listed.setIfInBounds i true) k = (Nat.beq k i || lst listed k) := by
  unfold lst
  rw [Array.getD_eq_getD_getElem?, Array.getD_eq_getD_getElem?, Array.getElem?_setIfInBounds]
  by_cases e : i = k
  · subst e; simp [hi]
  · have : Nat.beq k i = false := by
      cases hb : Nat.beq k i with
      | false => rfl
      | true => exact absurd (Nat.eq_of_beq_eq_true hb).symm e
    simp [e, this]
theorem mem_ready {listed : Array Bool} {i : Nat} : i ∈ Region.ready .any l.toArray listed ↔ i < l.length ∧ listed.getD i true = false ∧ ∃ o, l[i]? = some o ∧ ∀ e ∈ o.after.toList, Region.binds .any e = true → lst listed e.on = true := by
  simp only [Region.ready, List.mem_filter, List.mem_range, List.size_toArray, Bool.and_eq_true, Bool.not_eq_true', List.getElem?_toArray]
  constructor
  · rintro ⟨h1, h2, h3⟩
    refine ⟨h1, h2, ?_⟩
    cases ho : l[i]? with
    | none => rw [ho] at h3; simp at h3
    | some o =>
      rw [ho] at h3
      simp only [Option.map_some, Option.getD_some] at h3
      refine ⟨o, rfl, fun e he hb => ?_⟩
      rw [← Array.all_toList, List.all_eq_true] at h3
      have := h3 e he
      rw [hb] at this
      simpa [lst] using this
  · rintro ⟨h1, h2, o, ho, h3⟩
    refine ⟨h1, h2, ?_⟩
    rw [ho]
    simp only [Option.map_some, Option.getD_some]
    rw [← Array.all_toList, List.all_eq_true]
    intro e he
    cases hb : Region.binds .any e with
    | false => rfl
    | true => simpa [lst] using h3 e he hb
theorem draw_any (hp : Pred l cls) (hap : apartOk l cls X 0 l = true) (hx : xOk l cls X X = true) {recs : List DR} (hall : AllSteps P E l cls X base recs) (hlen : recs.length = l.length) (hk : K .normal (stD (fun _ => true) base recs)) :
    ∀ (fuel : Nat) (listed : Array Bool) (ρ : Val) (a : Act) (w : World), listed.size = l.length → Clo l (lst listed) → cnt (lst listed) l.length ≤ fuel → Sat E ρ (stD (lst listed) base recs) a w → wpAny P .any l.toArray (QK E K) fuel listed a w := by
  have hAt : ∀ {i : Nat} {o : Oper}, l[i]? = some o → Apart l cls X i o := fun {i o} ho => by
    have := apartOk_spec hap ho
    rw [Nat.zero_add] at this
    exact this
  have done : ∀ (listed : Array Bool) (ρ : Val) (a : Act) (w : World), (∀ k, k < l.length → lst listed k = true) → Sat E ρ (stD (lst listed) base recs) a w → QK E K .normal a w := by
    intro listed ρ a w hl hs
    have : stD (lst listed) base recs = stD (fun _ => true) base recs := by
      have h : ∀ {β : Type} (g : DR → Option β) (b : β), atR (lst listed) g recs b = atR (fun _ => true) g recs b := fun g b =>
        atR_agree fun post r pre e _ => hl _ (by rw [← hlen, e]; simp; omega)
      unfold stD
      congr 1
      · funext j; exact h _ _
      · funext j; exact h _ _
    rw [this] at hs
    exact ⟨ρ, _, hs, hk⟩
  intro fuel
  induction fuel with
  | zero =>
    intro listed ρ a w hsz hc hcnt hs
    have hl := cnt_zero (Nat.le_zero.1 hcnt)
    refine ⟨?_, done listed ρ a w hl hs⟩
    cases hr : Region.ready .any l.toArray listed with
    | nil => rfl
    | cons i rs =>
      have := (mem_ready (l := l) (listed := listed) (i := i)).1 (by rw [hr]; exact List.mem_cons_self)
      have h1 := hl i this.1
      have h2 := this.2.1
      rw [lst, Array.getD_eq_getD_getElem?] at h1
      rw [Array.getD_eq_getD_getElem?] at h2
      cases hx : listed[i]? with
      | none => rw [hx] at h1; cases h1
      | some b => rw [hx] at h1 h2; simp at h1 h2; rw [h1] at h2; cases h2
  | succ fuel ih =>
    intro listed ρ a w hsz hc hcnt hs
    refine ⟨fun hr => done listed ρ a w ?_ hs, ?_⟩
    · intro k
      induction k using Nat.strongRecOn with
      | _ k ihk =>
        intro hk
        cases hd : lst listed k with
        | true => rfl
        | false =>
          exfalso
          obtain ⟨o, ho⟩ : ∃ o, l[k]? = some o := ⟨l[k], List.getElem?_eq_getElem hk⟩
          have : k ∈ Region.ready .any l.toArray listed := by
            refine mem_ready.2 ⟨hk, ?_, o, ho, fun e he hb => ihk _ ((hAt ho).on e he hb) (Nat.lt_trans ((hAt ho).on e he hb) hk)⟩
            rw [lst, Array.getD_eq_getD_getElem?, Array.getElem?_eq_getElem (by rw [hsz]; exact hk)] at hd
            rw [Array.getD_eq_getD_getElem?, Array.getElem?_eq_getElem (by rw [hsz]; exact hk)]
            exact hd
          rw [hr] at this
          cases this
    · intro i hi
      obtain ⟨hi1, hi2, o, ho, hready⟩ := mem_ready.1 hi
      have hDi : lst listed i = false := by
        rw [lst, Array.getD_eq_getD_getElem?, Array.getElem?_eq_getElem (by rw [hsz]; exact hi1)]
        rw [Array.getD_eq_getD_getElem?, Array.getElem?_eq_getElem (by rw [hsz]; exact hi1)] at hi2
        exact hi2
      obtain ⟨post, r, pre, e, hpre⟩ := splitAt recs i (by rw [hlen]; exact hi1)
      obtain ⟨hro, hsteps, hnames⟩ := hall.at e
      subst hpre
      have hor : o = r.o := by rw [hro] at ho; injection ho with ho; exact ho.symm
      subst hor
      have ha := hAt hro
      have hwT : ∀ j, ∀ post r pre, recs = post ++ r :: pre → l[pre.length]? = some r.o ∧ ((gT j r).isSome = true → (fun _ o => dstIs o j : Nat → Oper → Bool) pre.length r.o = true) := by
        intro j post r pre e
        refine ⟨(hall.at e).1, fun hs => ?_⟩
        unfold gT at hs
        show dstIs r.o j = true
        cases hb : dstIs r.o j with
        | true => rfl
        | false => rw [hb] at hs; cases hs
      have hwM : ∀ x, ∀ post r pre, recs = post ++ r :: pre → l[pre.length]? = some r.o ∧ ((gM x r).isSome = true → (fun k o => Wn X k o x : Nat → Oper → Bool) pre.length r.o = true) := by
        intro x post r pre e
        refine ⟨(hall.at e).1, fun hs => (hall.at e).2.2 x ?_⟩
        unfold gM at hs
        cases hb : mget r.ms x with
        | some b => rfl
        | none => rw [hb] at hs; cases hs
      have hle : Le (dx r.o) (can l cls X base pre) (stD (lst listed) base recs) := by
        refine ⟨fun j => ?_, fun y => ?_, ?_⟩
        · simp only [can, stD]
          cases hm : memU (fun _ o => dstIs o j) cls pre.length 0 l with
          | true => exact .inl rfl
          | false => exact .inr (can_agree hp hc e (hwT j) ha hDi hready hm)
        · simp only [can, stD]
          cases hm : memU (fun k o => Wn X k o y) cls pre.length 0 l with
          | true => exact .inl rfl
          | false => exact .inr (can_agree hp hc e (hwM y) ha hDi hready hm)
        · simp only [can, stD, ha.dx]
          exact can_agree hp hc e (hwM _) ha hDi hready ha.dx
      have hD' : ∀ k, lst (listed.setIfInBounds pre.length true) k = (Nat.beq k pre.length || lst listed k) := fun k => lst_set (by rw [hsz]; exact hi1)
      have later : ∀ {β : Type} {g : DR → Option β} {wg : Nat → Oper → Bool}, (∀ post r pre, recs = post ++ r :: pre → l[pre.length]? = some r.o ∧ ((g r).isSome = true → wg pre.length r.o = true)) → ((g r).isSome = true → memU wg cls pre.length 0 l = false) →
          ∀ p1 r' p2, post = p1 ++ r' :: p2 → lst listed (p2 ++ r :: pre).length = true → (g r).isSome = true → g r' = none := by
        intro β g wg hw hm p1 r' p2 e2 hd hsome
        have e3 : recs = p1 ++ r' :: (p2 ++ r :: pre) := by rw [e, e2]; simp
        obtain ⟨hoj, hwg⟩ := hw _ _ _ e3
        have := memU_false (k0 := 0) (hm hsome) hoj (by rw [Nat.zero_add]; exact inU_of hp hc hro hoj hDi hd (ha.lt _ (by simp; omega)))
        rw [Nat.zero_add] at this
        cases hg : g r' with
        | none => rfl
        | some v => rw [hg] at hwg; rw [hwg rfl] at this; cases this
      have hnext : (⟨putT (stD (lst listed) base recs).t r.o.dst r.tv, upm (stD (lst listed) base recs).m r.ms⟩ : St) = stD (lst (listed.setIfInBounds pre.length true)) base recs := by
        unfold stD
        congr 1
        · funext j
          have := atR_insert (g := gT j) (b := base.t j) (r := r) (pre := pre) (post := post) hDi hD' (later (wg := fun _ o => dstIs o j) (hwT j) fun hs => ?_)
          · simp only [e]
            rw [this]
            unfold gT putT dstIs
            cases hdst : r.o.dst with
            | none => rfl
            | some d =>
              simp only [up]
              have : Nat.beq j d = Nat.beq d j := by
                cases h1 : Nat.beq j d with
                | true => rw [Nat.eq_of_beq_eq_true h1]; simp
                | false => cases h2 : Nat.beq d j with
                  | false => rfl
                  | true => rw [Nat.eq_of_beq_eq_true h2] at h1; simp at h1
              rw [this]
              cases Nat.beq d j <;> rfl
          · have := (hwT j post r pre e).2 hs
            exact ha.dst j (dstIs_eq this)
        · funext x
          have := atR_insert (g := gM x) (b := base.m x) (r := r) (pre := pre) (post := post) hDi hD' (later (wg := fun k o => Wn X k o x) (hwM x) fun hs => Wn_apart ha hx ((hwM x post r pre e).2 hs))
          simp only [e]
          rw [this]
          unfold gM upm
          cases mget r.ms x <;> rfl
      have hcnt' : cnt (lst (listed.setIfInBounds pre.length true)) l.length ≤ fuel := by
        have := cnt_set (D := lst listed) (D' := lst (listed.setIfInBounds pre.length true)) hi1 hDi (by rw [hD']; simp) fun k hk => by
          rw [hD']
          cases hb : Nat.beq k pre.length with
          | false => rfl
          | true => exact absurd (Nat.eq_of_beq_eq_true hb) hk
        omega
      have hc' : Clo l (lst (listed.setIfInBounds pre.length true)) := by
        intro k ok hok hk e he hb
        rw [hD'] at hk ⊢
        rw [Bool.or_eq_true] at hk ⊢
        rcases hk with hk | hk
        · have := Nat.eq_of_beq_eq_true hk
          subst this
          rw [hro] at hok
          injection hok with hok
          subst hok
          exact .inr (hready e he hb)
        · exact .inr (hc k ok hok hk e he hb)
      have fin : ∀ (ρ' : Val) (a' : Act) (w' : World), Sat E ρ' ⟨putT (stD (lst listed) base recs).t r.o.dst r.tv, upm (stD (lst listed) base recs).m r.ms⟩ a' w' → wpAny P .any l.toArray (QK E K) fuel (listed.setIfInBounds pre.length true) a' w' := by
        intro ρ' a' w' hs'
        rw [hnext] at hs'
        exact ih _ ρ' a' w' (by simp [hsz]) hc' hcnt' hs'
      have := hsteps _ hle ρ a w hs _ (QK E K) fin
      unfold wpOp
      rw [show l.toArray[pre.length]? = some r.o by rw [List.getElem?_toArray]; exact hro]
      simp only
      split
      · rename_i hw
        rw [hw, if_pos rfl] at this
        exact .inl this
      · rename_i hw
        rw [if_neg hw] at this
        exact this
end
end Go.Sx
