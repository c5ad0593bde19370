/- The symbolic executor, part M: rules for regions that draw their order, and calls in them and under guards. Generic over P. -/
import Derived.Test.YtiicemgngccicaaSxL
set_option linter.unusedVariables false
set_option linter.unusedSimpArgs false
namespace Go.Sx
open Go.RowKit
section
variable {P : Program} {E : Env} {K : Exit → St → Prop} {T : Tab} {l : List Oper} {cls : List Nat} {X : List (Nat × Nat)} {base : St}
theorem Le.refl (x : Nat) (C : St) : Le x C C := ⟨fun _ => .inr rfl, fun _ => .inr rfl, rfl⟩
theorem GO.steps {ops : Array Oper} {rest : List Oper} {o : Oper} {st : St} {tv : TV} {ms : List (Nat × Blk)} (h : Steps P E ops o st tv ms) (k : GO P E ops K rest ⟨Sx.putT st.t o.dst tv, upm st.m ms⟩) : GO P E ops K (o :: rest) st := by
  intro ρ a w hs
  have := h st (Le.refl _ _) ρ a w hs (wpList P ops (QK E K) rest) (QK E K) fun ρ' a' w' hs' => k ρ' a' w' hs'
  unfold wpList
  split
  · rename_i hw
    rw [if_pos hw] at this
    exact .inl this
  · rename_i hw
    rw [if_neg hw] at this
    exact this
/-- The memory m says all that m0 says. -/
def LeM (m0 m : Mem) : Prop := ∀ y, m0 y = none ∨ m y = m0 y
theorem LeM.at {m0 m : Mem} (h : LeM m0 m) {y : Nat} {b : Blk} (hy : m0 y = some b) : m y = some b := by
  rcases h y with e | e
  · rw [hy] at e; cases e
  · rw [e, hy]
/-- A call that answers a value and lets the memory of before stand. -/
theorem Steps.callPlain {ops : Array Oper} {o : Oper} {c : Call} {f : FuncId} {avs : List AV} {caps : List Cap} {v : Value} {C : St} (hg : o.guard = none) (hop : o.op = .call c) (he : callE C.t c = .mk f avs caps) (hd : dstOk E.N o.dst = true)
    (hcf : ∀ (args : Array Value) (w : World), (callFunc f args).run P w = .ok (.enter f args) w)
    (hc : ∀ m, LeM C.m m → ∀ ρ w, SatM E ρ m w → (∀ v ∈ avs, v.ok ρ m) → Calls P f (avs.map (AV.conc ρ) ++ caps.map (Cap.conc ρ)).toArray w fun e w' => e = .returned v ∧ Below w.heap.size w w') : Steps P E ops o C (toTV v) [] := by
  intro st hle ρ a w hs Kc Q hk
  have hs' := hs.weakT hle.t
  obtain ⟨hr, hok, hok2⟩ := call_run hs' hop he hcf
  rw [if_pos (by simp [Region.wanted, hg])]
  unfold Oper.wp
  rw [hr]
  refine (hc st.m hle.m ρ w hs.mem hok).mono ?_
  rintro e w' ⟨rfl, hb⟩
  exact hk ρ _ w' ((hs.below hb).putT (dstOk_lt hd) (toTV_rep _ _ v))
/-- Two answers. -/
def tG (t : Nat → TV) (j : Nat) (want : Bool) (slots : List Nat) (s : Nat) : TV := match elemN s slots with
  | true => strip j want (t s)
  | false => .unk
theorem Sat.tG {ρ : Val} {st : St} {a : Act} {w : World} (h : Sat E ρ st a w) {j : Nat} {want cb : Bool} {slots : List Nat} (ho : AllP (stripObs st.t j want cb slots)) (hc : cb = true) : Sat E ρ ⟨Sx.tG st.t j want slots, st.m⟩ a w :=
  ⟨h.mem, h.df, h.sz, fun s => by
    have := evG_rep h ho hc (.tmp s)
    simp only [evG] at this
    show (Sx.tG st.t j want slots s).rep _ _ _
    unfold Sx.tG
    cases he : elemN s slots with
    | true => rw [he] at this; exact this
    | false => trivial⟩
/-- A call under a guard, whose answer is one plain value. -/
theorem Steps.callGuard {ops : Array Oper} {o : Oper} {c : Call} {j : Nat} {want cb : Bool} {f : FuncId} {avs : List AV} {caps : List Cap} {v : Value} {av : AV} {C : St} (hg : o.guard = some (j, want)) (hb : guardB ops C.t j want = some cb) (hop : o.op = .call c)
    (hob : AllP (stripObs C.t j want cb (slotsOf o.op.operands.toList)))
    (he : callE (tG C.t j want (slotsOf o.op.operands.toList)) c = .mk f avs caps) (hd : dstOk E.N o.dst = true)
    (hcf : ∀ (args : Array Value) (w : World), (callFunc f args).run P w = .ok (.enter f args) w) (hv : toTV v = .v av)
    (hc : cb = true → ∀ m, LeM C.m m → ∀ ρ w, SatM E ρ m w → (∀ v ∈ avs, v.ok ρ m) → Calls P f (avs.map (AV.conc ρ) ++ caps.map (Cap.conc ρ)).toArray w fun e w' => e = .returned v ∧ Below w.heap.size w w') : Steps P E ops o C (.grd j want cb av) [] := by
  intro st hle ρ a w hs Kc Q hk
  have hs' := hs.weakT hle.t
  have hw := wanted_cond (ops := ops) hs' hg hb
  rw [hw]
  cases hcb : cb with
  | true =>
    subst hcb
    rw [if_pos rfl]
    obtain ⟨hr, hok, hok2⟩ := call_run (hs'.tG hob rfl) hop he hcf
    unfold Oper.wp
    rw [hr]
    refine (hc rfl st.m hle.m ρ w hs.mem hok).mono ?_
    rintro e w' ⟨rfl, hbl⟩
    refine hk ρ _ w' ((hs.below hbl).putT (dstOk_lt hd) ⟨fun _ => ?_, fun hf => by cases hf⟩)
    have := toTV_rep ρ st.m v
    rw [hv] at this
    exact this
  | false =>
    subst hcb
    rw [if_neg (by simp)]
    exact hk ρ _ w (hs.putT (dstOk_lt hd) ⟨fun hf => (by cases hf), fun _ => rfl⟩)
/-- The same in a region without an order to draw. -/
theorem GO.callGuard {ops : Array Oper} {rest : List Oper} {o : Oper} {c : Call} {j : Nat} {want cb : Bool} {f : FuncId} {avs : List AV} {caps : List Cap} (v : Value) {av : AV} {t : Nat → TV} {m : Mem} (hg : o.guard = some (j, want)) (hb : guardB ops t j want = some cb) (hop : o.op = .call c)
    (hob : AllP (stripObs t j want cb (slotsOf o.op.operands.toList)))
    (he : callE (tG t j want (slotsOf o.op.operands.toList)) c = .mk f avs caps) (hd : dstOk E.N o.dst = true)
    (hcf : ∀ (args : Array Value) (w : World), (callFunc f args).run P w = .ok (.enter f args) w) (hv : toTV v = .v av)
    (hc : cb = true → ∀ m', LeM m m' → ∀ ρ w, SatM E ρ m' w → (∀ v ∈ avs, v.ok ρ m') → Calls P f (avs.map (AV.conc ρ) ++ caps.map (Cap.conc ρ)).toArray w fun e w' => e = .returned v ∧ Below w.heap.size w w')
    (k : GO P E ops K rest ⟨Sx.putT t o.dst (.grd j want cb av), m⟩) : GO P E ops K (o :: rest) ⟨t, m⟩ :=
  GO.steps (Steps.callGuard (C := ⟨t, m⟩) hg hb hop hob he hd hcf hv hc) k

def GD (P : Program) (E : Env) (K : Exit → St → Prop) (l : List Oper) (cls : List Nat) (X : List (Nat × Nat)) (base : St) (recs : List DR) (rest : List Oper) (t : Nat → TV) (m : Mem) : Prop :=
  AllSteps P E l cls X base recs → l.drop recs.length = rest → stD (fun _ => true) base recs = ⟨t, m⟩ → ∃ recs', AllSteps P E l cls X base recs' ∧ recs'.length = l.length ∧ K .normal (stD (fun _ => true) base recs')
theorem AllSteps.len {recs : List DR} (h : AllSteps P E l cls X base recs) : recs.length ≤ l.length := by
  cases recs with
  | nil => simp
  | cons r pre => have := (List.getElem?_eq_some_iff.1 h.2.1).1; simp; omega
theorem GD.nil {recs : List DR} {t : Nat → TV} {m : Mem} (h : K .normal ⟨t, m⟩) : GD P E K l cls X base recs [] t m := by
  intro hall hd he
  refine ⟨recs, hall, ?_, by rw [he]; exact h⟩
  have := hall.len
  rw [List.drop_eq_nil_iff] at hd
  omega
def Wok (X : List (Nat × Nat)) (k : Nat) (o : Oper) : List (Nat × Blk) → Bool
  | [] => true
  | p :: r => Wn X k o p.1 && Wok X k o r
theorem Wok_spec {k : Nat} {o : Oper} {ms : List (Nat × Blk)} (h : Wok X k o ms = true) {x : Nat} (hx : (mget ms x).isSome = true) : Wn X k o x = true := by
  induction ms with
  | nil => cases hx
  | cons p r ih =>
    simp only [Wok, Bool.and_eq_true] at h
    unfold mget at hx
    cases hb : Nat.beq x p.1 with
    | true => rw [Nat.eq_of_beq_eq_true hb]; exact h.1
    | false => rw [hb] at hx; exact ih h.2 hx
theorem GD.step {recs : List DR} {o : Oper} {rest : List Oper} {t : Nat → TV} {m : Mem} {tv : TV} {ms : List (Nat × Blk)} (h : Steps P E l.toArray o (can l cls X base recs) tv ms) (hn : Wok X recs.length o ms = true)
    (k : GD P E K l cls X base (⟨o, tv, ms⟩ :: recs) rest (Sx.putT t o.dst tv) (upm m ms)) : GD P E K l cls X base recs (o :: rest) t m := by
  intro hall hd he
  have ho : l[recs.length]? = some o := by
    have := congrArg (fun l => l[0]?) hd
    simpa using this
  refine k ⟨hall, ho, h, fun x hx => Wok_spec hn hx⟩ ?_ ?_
  · rw [List.length_cons, ← List.drop_drop, hd]; rfl
  · have h1 := congrArg St.t he
    have h2 := congrArg St.m he
    unfold stD
    congr 1
    · funext j
      have := congrFun h1 j
      simp only [stD] at this
      simp only [atR, gT, this]
      unfold Sx.putT dstIs
      cases hdst : o.dst with
      | none => rfl
      | some d =>
        simp only [up]
        have : Nat.beq j d = Nat.beq d j := by
          cases h1 : Nat.beq j d with
          | true => rw [Nat.eq_of_beq_eq_true h1]; simp
          | false => cases h2 : Nat.beq d j with
            | false => rfl
            | true => rw [Nat.eq_of_beq_eq_true h2] at h1; simp at h1
        rw [this]
        cases Nat.beq d j <;> rfl
    · funext x
      have := congrFun h2 x
      simp only [stD] at this
      simp only [atR, gM, this]
      unfold upm
      cases mget ms x <;> rfl
theorem G.draw (hm : P.follows .mixedOrders = true) {id : Nat} (hcls : clGo [] l = cls) (hap : apartOk l cls X 0 l = true) (hx : xOk l cls X X = true) {t : Nat → TV} {m : Mem} (h : GD P E K l cls X ⟨t, m⟩ [] l t m) : G P E K (.region id l.toArray true) ⟨t, m⟩ := by
  obtain ⟨recs, hall, hlen, hk⟩ := h trivial rfl rfl
  intro ρ a w hs
  have hp : Pred l cls := by rw [← hcls]; exact clGo_spec l
  refine wp_region_any hm ?_
  have hw : Below w.heap.size w { w with drawn := w.drawn + 1 } := ⟨rfl, rfl, rfl, Nat.le_refl _, fun _ _ => rfl⟩
  have hl : ∀ k, lst (Array.replicate l.toArray.size false) k = false := by
    intro k
    simp only [lst, Array.getD_eq_getD_getElem?, List.size_toArray, Array.getElem?_replicate]
    split <;> rfl
  refine draw_any hp hap hx hall hlen hk l.toArray.size _ ρ a _ (by simp) (fun i o _ hi => by rw [hl] at hi; cases hi) ?_ ?_
  · have : ∀ (D : Nat → Bool) n, cnt D n ≤ n := by
      intro D n
      induction n with
      | zero => exact Nat.le_refl _
      | succ n ih => simp only [cnt]; split <;> omega
    simpa using this _ l.length
  · have : stD (lst (Array.replicate l.toArray.size false)) ⟨t, m⟩ recs = ⟨t, m⟩ := by
      have h : ∀ {β : Type} (g : DR → Option β) (b : β) (rs : List DR), atR (lst (Array.replicate l.toArray.size false)) g rs b = b := by
        intro β g b rs
        induction rs with
        | nil => rfl
        | cons r rs ih => simp only [atR, hl, ih]
      unfold stD
      congr 1
      · funext j; exact h _ _ _
      · funext j; exact h _ _ _
    rw [this]
    exact hs.below hw
theorem G.seqDraw (hm : P.follows .mixedOrders = true) {id : Nat} {y : Code} (cls : List Nat) (X : List (Nat × Nat)) (hcls : clGo [] l = cls) (hap : apartOk l cls X 0 l = true) (hx : xOk l cls X X = true) {t : Nat → TV} {m : Mem} (h : GD P E (thenK (G P E K y) K) l cls X ⟨t, m⟩ [] l t m) : G P E K (.seq (.region id l.toArray true) y) ⟨t, m⟩ :=
  G.seq (G.draw hm hcls hap hx h)

/-- Two ways meet: what is said of the state behind the first part. -/
def joinK {α : Type} (E : Env) (S : α → St) (pre : α → Prop) (K : Exit → St → Prop) : Exit → St → Prop
  | .normal, st' => ∃ z, pre z ∧ St.le E (S z) st'
  | e, st' => K e st'
theorem G.join {α : Type} (S : α → St) (pre : α → Prop) {x y : Code} {st : St} (h1 : G P E (joinK E S pre K) x st) (h2 : ∀ z, pre z → G P E K y (S z)) : G P E K (.seq x y) st := by
  refine G.seq (G.mono h1 fun e st' h => ?_)
  cases e <;> first
    | exact h
    | (obtain ⟨z, hz, hle⟩ := h
       exact G.weaken hle (h2 z hz))
/-! ### Many operations at once -/
def forceMs {α : Type} (ms : List (Nat × Blk)) (Kf : List (Nat × Blk) → α) : α := match ms with
  | [] => Kf []
  | (y, .var ty cs) :: r => Kf ((y, .var ty cs) :: r)
  | (y, .arr ty sz n el room) :: r => Kf ((y, .arr ty sz n el room) :: r)
  | (y, .ro sz n el) :: r => Kf ((y, .ro sz n el) :: r)
theorem forceMs_eq {α : Type} (ms : List (Nat × Blk)) (Kf : List (Nat × Blk) → α) : forceMs ms Kf = Kf ms := by
  unfold forceMs
  repeat' (first | rfl | split)
def upmE (m : Mem) (ms : List (Nat × Blk)) : Mem := match ms with
  | [] => m
  | [(y, b)] => up m y (some b)
  | l => upm m l
theorem upmE_eq (m : Mem) (ms : List (Nat × Blk)) : upmE m ms = upm m ms := by
  unfold upmE
  split
  · rfl
  · exact (upm_one _ _ _).symm
  · rfl
def forceU {α : Type} (m : Mem) (ms : List (Nat × Blk)) (Kf : Mem → α) : α := match ms with
  | [] => Kf m
  | [(y, b)] => Kf (up m y (some b))
  | l => Kf (upm m l)
theorem forceU_eq {α : Type} (m : Mem) (ms : List (Nat × Blk)) (Kf : Mem → α) : forceU m ms Kf = Kf (upmE m ms) := by
  unfold forceU upmE
  repeat' (first | rfl | split)
inductive RD where
  | mk (recs : List DR) (rest : List Oper) (t : Nat → TV) (m : Mem) (obs : List Prop)
/-- The same with the number of operations told, so that it is a numeral. -/
def atF {β : Type} (D : Nat → Bool) (g : DR → Option β) (i : Nat) (l : List DR) (b : β) : β := match l with
  | [] => b
  | r :: l => match D (i - 1) with
    | true => match g r with
      | some v => v
      | none => atF D g (i - 1) l b
    | false => atF D g (i - 1) l b
theorem atF_eq {β : Type} (D : Nat → Bool) (g : DR → Option β) (l : List DR) (b : β) : atF D g l.length l b = atR D g l b := by
  induction l with
  | nil => rfl
  | cons r l ih =>
    simp only [atF, atR, List.length_cons, Nat.add_sub_cancel, ih]
    rfl
def canF (l : List Oper) (cls : List Nat) (X : List (Nat × Nat)) (base : St) (i : Nat) (recs : List DR) : St :=
  ⟨fun j => match memU (fun _ o => dstIs o j) cls i 0 l with
    | true => .unk
    | false => atF (fun k => tb (cls.getD i 0) k) (gT j) i recs (base.t j),
   fun x => match memU (fun k o => Wn X k o x) cls i 0 l with
    | true => none
    | false => atF (fun k => tb (cls.getD i 0) k) (gM x) i recs (base.m x)⟩
theorem canF_eq {recs : List DR} {i : Nat} (h : recs.length = i) : canF l cls X base i recs = can l cls X base recs := by
  subst h
  simp only [canF, can, atF_eq]
  rfl
def runD (T : Tab) (N : Nat) (l : List Oper) (cls : List Nat) (X : List (Nat × Nat)) (base : St) : List Oper → Nat → List DR → (Nat → TV) → Mem → List Prop → RD
  | [], _, recs, t, m, obs => .mk recs [] t m obs
  | o :: r, i, recs, t, m, obs => match stepE T N l.toArray (canF l cls X base i recs).t (canF l cls X base i recs).m o with
    | .bad => .mk recs (o :: r) t m obs
    | .ok tv m' ob => forceMs (msS (canF l cls X base i recs) o m') fun ms => match Wok X i o ms with
      | false => .mk recs (o :: r) t m obs
      | true => match o.dst with
        | some d => forceO (app ob obs) fun obs => forceU m ms fun m => runD T N l cls X base r (i + 1) (⟨o, tv, ms⟩ :: recs) (up t d tv) m obs
        | none => forceO (app ob obs) fun obs => forceU m ms fun m => runD T N l cls X base r (i + 1) (⟨o, tv, ms⟩ :: recs) t m obs
theorem GD.run (hT : Tab.fine P T) {rest rest' : List Oper} {i : Nat} {recs recs' : List DR} {t t' : Nat → TV} {m m' : Mem} {obs obs' : List Prop} (hi : recs.length = i) (h : runD T E.N l cls X base rest i recs t m obs = .mk recs' rest' t' m' obs') (ho : AllP obs')
    (k : GD P E K l cls X base recs' rest' t' m') : GD P E K l cls X base recs rest t m ∧ AllP obs := by
  induction rest generalizing recs t m obs i with
  | nil => injection h with h1 h2 h3 h4 h5; subst h1; subst h2; subst h3; subst h4; subst h5; exact ⟨k, ho⟩
  | cons o r ih =>
    rw [runD, canF_eq hi] at h
    split at h
    · injection h with h1 h2 h3 h4 h5; subst h1; subst h2; subst h3; subst h4; subst h5; exact ⟨k, ho⟩
    · rename_i tv m1 ob he
      rw [forceMs_eq] at h
      split at h
      · injection h with h1 h2 h3 h4 h5; subst h1; subst h2; subst h3; subst h4; subst h5; exact ⟨k, ho⟩
      · rename_i hw
        simp only [forceO_eq, app_eq, forceU_eq, upmE_eq] at h
        have : GD P E K l cls X base (⟨o, tv, msS (can l cls X base recs) o m1⟩ :: recs) r (Sx.putT t o.dst tv) (upm m (msS (can l cls X base recs) o m1)) ∧ AllP (ob ++ obs) := by
          split at h
          · rename_i d hd; rw [hd]; exact ih (by simp [hi]) h
          · rename_i hd; rw [hd]; exact ih (by simp [hi]) h
        rw [AllP_append] at this
        rw [← hi] at hw
        exact ⟨GD.step (Steps.op hT he this.2.1) hw this.1, this.2.2⟩
theorem GD.more (hT : Tab.fine P T) {rest rest' : List Oper} {recs recs' : List DR} {t t' : Nat → TV} {m m' : Mem} {obs' : List Prop} (i : Nat) (hi : recs.length = i) (h : runD T E.N l cls X base rest i recs t m [] = .mk recs' rest' t' m' obs') (ho : AllP obs')
    (k : GD P E K l cls X base recs' rest' t' m') : GD P E K l cls X base recs rest t m := (GD.run hT hi h ho k).1
theorem GD.fin (hT : Tab.fine P T) {rest : List Oper} {recs recs' : List DR} {t t' : Nat → TV} {m m' : Mem} {obs' : List Prop} (i : Nat) (hi : recs.length = i) (h : runD T E.N l cls X base rest i recs t m [] = .mk recs' [] t' m' obs') (ho : AllP obs')
    (k : K .normal ⟨t', m'⟩) : GD P E K l cls X base recs rest t m := (GD.run hT hi h ho (GD.nil k)).1
/-- A region without calls, and what follows. -/
theorem G.seqD (hT : Tab.fine P T) (hm : P.follows .mixedOrders = true) {id : Nat} {y : Code} (cls : List Nat) (X : List (Nat × Nat)) (hcls : clGo [] l = cls) (hap : apartOk l cls X 0 l = true) (hx : xOk l cls X X = true) {t t' : Nat → TV} {m m' : Mem} {recs' : List DR} {obs' : List Prop}
    (h : runD T E.N l cls X ⟨t, m⟩ l 0 [] t m [] = .mk recs' [] t' m' obs') (ho : AllP obs') (k : G P E K y ⟨t', m'⟩) : G P E K (.seq (.region id l.toArray true) y) ⟨t, m⟩ :=
  G.seqDraw hm cls X hcls hap hx (GD.fin hT 0 rfl h ho k)
theorem G.regD (hT : Tab.fine P T) (hm : P.follows .mixedOrders = true) {id : Nat} (cls : List Nat) (X : List (Nat × Nat)) (hcls : clGo [] l = cls) (hap : apartOk l cls X 0 l = true) (hx : xOk l cls X X = true) {t t' : Nat → TV} {m m' : Mem} {recs' : List DR} {obs' : List Prop}
    (h : runD T E.N l cls X ⟨t, m⟩ l 0 [] t m [] = .mk recs' [] t' m' obs') (ho : AllP obs') (k : K .normal ⟨t', m'⟩) : G P E K (.region id l.toArray true) ⟨t, m⟩ :=
  G.draw hm hcls hap hx (GD.fin hT 0 rfl h ho k)
theorem GD.call {recs : List DR} {o : Oper} {rest : List Oper} {t : Nat → TV} {m : Mem} {c : Call} {f : FuncId} {avs : List AV} {caps : List Cap} {v : Value} (i : Nat) (hi : recs.length = i) (hg : o.guard = none) (hop : o.op = .call c) (he : callE (canF l cls X base i recs).t c = .mk f avs caps) (hd : dstOk E.N o.dst = true)
    (hcf : ∀ (args : Array Value) (w : World), (callFunc f args).run P w = .ok (.enter f args) w)
    (hc : ∀ m, LeM (canF l cls X base i recs).m m → ∀ ρ w, SatM E ρ m w → (∀ v ∈ avs, v.ok ρ m) → Calls P f (avs.map (AV.conc ρ) ++ caps.map (Cap.conc ρ)).toArray w fun e w' => e = .returned v ∧ Below w.heap.size w w')
    (k : GD P E K l cls X base (⟨o, toTV v, []⟩ :: recs) rest (Sx.putT t o.dst (toTV v)) m) : GD P E K l cls X base recs (o :: rest) t m :=
  GD.step (Steps.callPlain hg hop (by rw [← canF_eq hi]; exact he) hd hcf (by rw [← canF_eq hi]; exact hc)) rfl k
theorem GD.callGuard {recs : List DR} {o : Oper} {rest : List Oper} {t : Nat → TV} {m : Mem} {c : Call} {j : Nat} {want cb : Bool} {f : FuncId} {avs : List AV} {caps : List Cap} (v : Value) {av : AV} (i : Nat) (hi : recs.length = i) (hg : o.guard = some (j, want)) (hb : guardB l.toArray (canF l cls X base i recs).t j want = some cb) (hop : o.op = .call c)
    (hob : AllP (stripObs (canF l cls X base i recs).t j want cb (slotsOf o.op.operands.toList)))
    (he : callE (tG (canF l cls X base i recs).t j want (slotsOf o.op.operands.toList)) c = .mk f avs caps) (hd : dstOk E.N o.dst = true)
    (hcf : ∀ (args : Array Value) (w : World), (callFunc f args).run P w = .ok (.enter f args) w) (hv : toTV v = .v av)
    (hc : cb = true → ∀ m', LeM (canF l cls X base i recs).m m' → ∀ ρ w, SatM E ρ m' w → (∀ v ∈ avs, v.ok ρ m') → Calls P f (avs.map (AV.conc ρ) ++ caps.map (Cap.conc ρ)).toArray w fun e w' => e = .returned v ∧ Below w.heap.size w w')
    (k : GD P E K l cls X base (⟨o, .grd j want cb av, []⟩ :: recs) rest (Sx.putT t o.dst (.grd j want cb av)) m) : GD P E K l cls X base recs (o :: rest) t m := by
  rw [canF_eq hi] at hb hob he hc
  exact GD.step (Steps.callGuard hg hb hop hob he hd hcf hv hc) rfl k
end
end Go.Sx
