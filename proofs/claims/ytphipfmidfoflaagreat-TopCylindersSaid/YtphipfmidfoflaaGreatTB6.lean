/- Top: the walk of TopCylinders. -/
import Derived.Test.YtphipfmidfoflaaGreatTB5
/- The symbolic executor, part BI: append onto a row that is told of as a constant, in a region that draws. Generic over P. -/
set_option linter.unusedVariables false
set_option linter.unusedSimpArgs false
namespace Go.Sx
open Go.RowKit
section
variable {P : Program} {E : Env} {K : Exit → St → Prop} {T : Tab} {ops : Array Oper}
/-- The row that grows, as a choice. -/
def adrV : Value → Option Addr
  | .slice A _ _ => A
  | _ => none
def cpV : Value → Nat
  | .slice _ _ c => c
  | _ => 0
def growF (X n : Nat) (R' : Cho → World → Prop) : Fam := ⟨fun u => .v (.c (.k (.slice (adrV u.1) n (cpV u.1)))), fun u => [(X, .say u.2 (R' u))], [X], true⟩
theorem StepsC.appendSay {o : Oper} {s y : Operand} {t e size bytes d n c : Nat} {z : Value} {C : St} {A : Option Addr} {el : Nat → List Value} {q c1 : Nat} {ty1 : TypeId} {S : Nat → Prop} {R : World → Prop} (X : Nat) (vs : List Value) (R' : Cho → World → Prop) (hp : ApT P t e size bytes z) (hg : o.guard = none) (hop : o.op = .call { callee := .builtin .append, args := #[s, y], argTypes := #[t, t] })
    (hd : o.dst = some d) (hdN : Nat.blt d E.N = true) (hs : evT C.t s = .v (.c (.k (.slice A n c)))) (hX : C.m X = some (.say S R)) (hSA : ∀ k, gb A k → S k) (hRA : ∀ w, R w → GrowAt w A n c e size el) (hbo : ∀ k, gb A k → E.w0.heap.size ≤ k)
    (hap : ∀ ρ a w, Sat E ρ C a w → ∀ x b, x ≠ X → C.m x = some b → b.live → b.own ∨ ∀ k, b.hits (ρ x) k → ¬ S k)
    (hy : evT C.t y = .v (.c (.slc q 0 size 1 c1))) (hq : C.m q = some (.var ty1 (vs.map .k))) (hv : vs.length = size) (h1 : ∀ u ∈ vs, u.oneCell' = true)
    (hlen : ∀ k, k < n → (el k).length = size) (b1 : n + 1 ≤ maxLen) (b2 : (n + 1) * bytes ≤ 140737488355328)
    (hR' : ∀ ρ a w, Sat E ρ C a w → ∀ g c' w', n + 1 ≤ c' → (A = some ⟨g, 0, none⟩ ∨ w.heap.size ≤ g) → g < w'.heap.size → w.heap.size ≤ w'.heap.size → GrowAt w' (some ⟨g, 0, none⟩) (n + 1) c' e size (elN el n vs) → R' (.slice (some ⟨g, 0, none⟩) (n + 1) c', gb (some ⟨g, 0, none⟩)) w') (hst : ∀ i, Steady i.2 (R' i)) :
    StepsC P E ops o C (growF X (n + 1) R') := by
  intro st hle hfull ρ a w hsat0 Kc Q hk
  have hm : st.m = C.m := hfull rfl
  have hs' := hsat0.weakT hle.t
  have hsat : Sat E ρ C a w := by
    have : (⟨C.t, st.m⟩ : St) = C := by rw [hm]
    rw [← this]; exact hs'
  have es : a.eval s = .slice A n c := by have := hsat.eval s; simp only [St.ev, hs] at this; exact this.2
  have hvar := hsat.mem.ok q _ hq
  have ey : a.eval y = .slice (some ⟨(ρ q).1, 0, none⟩) 1 c1 := by
    have := hsat.eval y
    simp only [St.ev, hy] at this
    have := this.2
    simpa [AV.conc, AC.conc, hvar.1] using this
  have hqc := hvar.2.2.1
  rw [map_conc_k] at hqc
  obtain ⟨x1, x2, x3⟩ := hsat.mem.ok X _ hX
  obtain ⟨g, c', w', r0, hrun, r1, r2, r3, r4, r5, r6, r7⟩ := append_at (ty := o.type) (c1 := c1) hp (hRA w x1) hqc hv h1 hlen b1 b2
  have hex : (execOp a.eval o).run P w = .ok (.value (.slice (some ⟨g, 0, none⟩) (n + 1) c')) w' := by
    simp [execOp, hop, resolve, invoke, builtin, es, ey, hrun, Result.andThen]
  rw [if_pos (by simp [Region.wanted, hg])]
  refine .inl ?_
  unfold Oper.wp
  rw [hex]
  have hgr : GrowAt w' (some ⟨g, 0, none⟩) (n + 1) c' e size (elN el n vs) := .inr ⟨g, rfl, r7, r0⟩
  have hlt : g < w'.heap.size := hgr.lt g ⟨_, rfl, rfl⟩
  obtain ⟨u, hu⟩ : ∃ u : Cho, u = (.slice (some ⟨g, 0, none⟩) (n + 1) c', gb (some ⟨g, 0, none⟩)) := ⟨_, rfl⟩
  have hru : R' u w' := by rw [hu]; exact hR' ρ a w hsat g c' w' r0 r6 hlt r4 hgr
  have hsz : ∀ y, (C.m y).isSome = true → (up C.m X (some (.say u.2 (R' u))) y).isSome = true := fun y hy => isSome_up y hy
  have hfr : Fr E.w0 (E.bor.map (·.2)) w' := ⟨r1.trans hsat.mem.fr.os, r2.trans hsat.mem.fr.tape, r3.trans hsat.mem.fr.output, Nat.le_trans hsat.mem.fr.size r4, fun j hj hn => by
    refine (r5 j (Nat.lt_of_lt_of_le hj hsat.mem.fr.size) fun hgb => ?_).trans (hsat.mem.fr.block j hj hn)
    have := hbo j hgb
    omega⟩
  have hne : ∀ x b, x ≠ X → C.m x = some b → b.live → ∀ k, b.hits (ρ x) k → ¬ gb A k := by
    intro x b hx hb hlv k hk hgb
    rcases hap ρ a w hsat x b hx hb hlv with ho | h
    · rw [(Blk.own_hits ho).1 hk] at hgb
      exact hsat.mem.ne x X b _ hb hX ho trivial hx (hSA _ hgb)
    · exact h k hk (hSA k hgb)
  have hM : SatM E ρ (up C.m X (some (.say u.2 (R' u)))) w' := by
    refine hsat.mem.swap hfr r4 hsz fun x b hx => ?_
    by_cases e : x = X
    · subst e
      rw [up_same] at hx
      injection hx with hx
      subst hx
      refine .inr (.inl ⟨_, _, rfl, hru, fun k hk => ?_, hst u, fun y b hy hc ho => ?_⟩)
      · rw [hu] at hk
        obtain ⟨a', e', h'⟩ := hk
        injection e' with e'
        rw [h', ← e']; exact hlt
      rw [up_other _ _ hy] at hc
      rw [hu]
      rintro ⟨a', e', h'⟩
      injection e' with e'
      rw [← e'] at h'
      rcases r6 with h | h
      · exact hne y b hy hc (Blk.own_live ho) (ρ y).1 ((Blk.own_hits ho).2 rfl) ⟨_, h, h'⟩
      · have := hsat.mem.lt hc ho
        simp only at h'
        omega
    · rw [up_other _ _ e] at hx
      exact .inl ⟨hx, fun k hlv hk => r5 k (hsat.mem.lt' hx hlv hk) fun hgb => hne x b e hx hlv k hk hgb⟩
  refine hk u ρ _ w' ?_
  have e1 : upm st.m ((growF X (n + 1) R').ms u) = up C.m X (some (.say u.2 (R' u))) := by rw [hm]; exact upm_one _ _ _
  rw [e1]
  have hs2 : Sat E ρ ⟨st.t, C.m⟩ a w := hm ▸ hsat0
  have e2 : (Value.slice (some ⟨g, 0, none⟩) (n + 1) c') = .slice (adrV u.1) (n + 1) (cpV u.1) := by rw [hu]; rfl
  rw [e2]
  refine (hs2.remem0 hM hsz).putT (fun z hz => ?_) ⟨trivial, rfl⟩
  rw [hd] at hz
  injection hz with hz
  subst hz
  simpa [Nat.blt_eq] using hdN
theorem GD.make1 {l : List Oper} {cls : List Nat} {X : List (Nat × Nat)} {base : St} {recs : List DR} {rest : List Oper} {tt : Nat → TV} {m : Mem} {o : Oper} {ln cp : Operand} {t e bytes d : Nat} {z : Value} {kl kc : IntKind} (i n : Nat) (hi : recs.length = i) (hp : ApT P t e 1 bytes z) (hz1 : z.cells = #[z]) (hg : o.guard = none) (hop : o.op = .makeSlice t ln cp)
    (hd : o.dst = some d) (hdN : Nat.blt d E.N = true) (hdb : Nat.blt d 1000 = true) (hfree : (canF l cls X base i recs).m d = none) (hl : evT (canF l cls X base i recs).t ln = .v (.c (.k (.int kl (n : Int))))) (hc : evT (canF l cls X base i recs).t cp = .v (.c (.k (.int kc (n : Int))))) (h0 : 0 < n) (b1 : n ≤ maxLen) (b2 : bytes * n ≤ 281474976710656)
    (hw : Wok X i o [(d, .arr e 1 n (fun _ => [z]) ((n - n) * 1))] = true)
    (k : GD P E K l cls X base (⟨o, .v (.c (.slc d 0 1 n n)), [(d, .arr e 1 n (fun _ => [z]) ((n - n) * 1))]⟩ :: recs) rest (Sx.putT tt o.dst (.v (.c (.slc d 0 1 n n)))) (upm m [(d, .arr e 1 n (fun _ => [z]) ((n - n) * 1))])) : GD P E K l cls X base recs (o :: rest) tt m := by
  rw [canF_eq hi] at hfree hl hc
  exact GD.step (Steps.make1 n hp hz1 hg hop hd hdN hdb hfree hl hc h0 b1 b2) (by rw [hi]; exact hw) k
end
end Go.Sx
/- Top: the tables of marks. -/
set_option linter.unusedVariables false
set_option linter.unusedSimpArgs false
set_option maxRecDepth 8000
set_option maxHeartbeats 2000000
namespace Go.Proofs.YtphipfmidfoflaaGreat
open Go.Sx Go.RowKit
theorem mpK : MpK Tryz.prog 76 3 := ⟨⟨_, rfl⟩, by kernel_rfl⟩
theorem apMk : ApT Tryz.prog 45 58 2 16 (.agg #[I 0, I 0]) := ⟨by kernel_rfl, by kernel_rfl, rfl, by decide⟩
def fnV (f : FuncId) : Value := .func (.func f) #[] #[]
/-- What is told of the marks. -/
def RM (g0 k : Nat) (el : Nat → List Value) (A : Option Addr) (c : Nat) (S : Nat → Prop) (w : World) : Prop := (∀ j, S j ↔ gb A j) ∧ (∀ j, S j → g0 ≤ j) ∧ GrowAt w A k c 58 2 el
theorem RM.steady {g0 k : Nat} {el : Nat → List Value} {A : Option Addr} {c : Nat} {S : Nat → Prop} : Steady S (RM g0 k el A c S) := by
  rintro w1 w2 h1 h2 ⟨e2, e3, e4⟩
  exact ⟨e2, e3, GrowAt.steady w1 w2 (fun k hk => h1 k ((e2 k).2 hk)) h2 e4⟩
/-- A row with its place: address, capacity, blocks. -/
structure Grow where
  A : Option Addr
  c : Nat
  S : Nat → Prop
def BuAns (w w' : World) (n : Nat) (e : Ending) : Prop := ∃ (u : Option Addr × Nat) (wd : Int), e = .returned (.tuple #[.agg #[.slice u.1 n u.2, I wd], I 0]) ∧ Below w.heap.size w w'
def bwR (w : World) (u : (Option Addr × Nat) × Nat) (o : List (Int × Int)) (w1 : World) : Prop := RdRow w1 u.1.1 o.length 2 (elP o) ∧ (∀ k, sb (.slice u.1.1 o.length u.1.2) k → k < u.2) ∧ w.heap.size ≤ u.2 ∧ u.2 ≤ w1.heap.size
theorem dipBuild_any (s : ByteArray) (A : Option Addr) (c : Nat) (l : List (Int × Int)) (decl : Int) (B : Option Addr) (d : Nat) (lv : List Int) (n : Int) (w : World) (h3 : RdRow w A l.length 2 (elP l)) (h4 : RdRow w B lv.length 1 (elI lv)) (hn : l.length ≤ 100000) (hl1 : 1 ≤ lv.length) (hl2 : lv.length ≤ 1000) (hd : lv.length ≤ d)
    (hf : faultM s 1 l decl lv n = 0) (h5 : (slicesM l n).2 = 0) (h6 : ∀ k, k + 1 < lv.length → (bE s 1 l decl (slicesM l n).1 lv k).2.2 = 0) :
    Calls Tryz.prog 16 #[.agg #[.string s, I 1, .slice A l.length c, I decl], .slice B lv.length d, I n] w fun e w' => BuAns w w' lv.length e := by
  have hltB : ∀ k, sb (.slice B lv.length d) k → k < w.heap.size := sb_lt h4
  refine enterSay [] [.agg [.k (.string s), .k (I 1), .k (.slice A l.length c), .k (I decl)], .c (.k (.slice B lv.length d)), .c (.k (I n))]
    [(801, .say (sb (.slice A l.length c)) (fun w => RdRow w A l.length 2 (elP l))), (802, .say (sb (.slice B lv.length d)) (fun w => RdRow w B lv.length 1 (elI lv)))] Tryz.func16 rfl 75 Tryz.ntmps16 rfl rfl ⟨⟨trivial, trivial, trivial, trivial, trivial⟩, trivial, trivial, trivial⟩
    ⟨⟨h3, sb_lt h3, steady_row⟩, ⟨fun h => h.elim, fun h => h.elim, trivial⟩, ⟨h4, hltB, steady_row⟩, trivial, trivial⟩ ?_
  refine G.seqR tfine rfl trivial ?_
  refine G.seq ?_
  refine G.seqC tfine rfl trivial ?_
  refine GO.callPlain (v := I 0) rfl rfl rfl rfl (fun args w => Tryz.call34 args w) (fun ρ w hs hok => ?_) ?_
  · have := fault_any s 1 A c l decl B d lv n w (hs.ok 801 _ rfl).1 (hs.ok 802 _ rfl).1 hn (by omega)
    rw [hf] at this
    exact this
  refine GO.fin tfine rfl trivial ?_
  refine G.seqR tfine rfl trivial ?_
  refine G.cond_false rfl ?_
  refine G.skip ?_
  refine G.seqC tfine rfl trivial ?_
  refine GO.makeMapK rfl rfl rfl rfl rfl rfl ?_
  refine GO.insertK 24 [] 1 (fnV 35) mpK rfl rfl rfl rfl rfl rfl rfl rfl ?_
  refine GO.insertK 24 [(1, fnV 35)] 2 (fnV 36) mpK rfl rfl rfl rfl rfl rfl rfl rfl ?_
  refine GO.fin tfine rfl trivial ?_
  refine G.seqC tfine rfl trivial ?_
  refine GO.lookupK 24 [(1, fnV 35), (2, fnV 36)] 1 (fnV 35) mpK rfl rfl rfl rfl rfl rfl rfl ?_
  refine GO.more tfine rfl trivial ?_
  obtain ⟨o, ho⟩ : ∃ o, o = liL s 1 l decl (slicesM l n).1 lv (lv.length - 1) := ⟨_, rfl⟩
  have hol : o.length = lv.length := by rw [ho, liL_len]; omega
  refine GO.callSay 812 (fun u : (Option Addr × Nat) × Nat => .tuple #[.slice u.1.1 o.length u.1.2, I 0]) (fun u => sb (.slice u.1.1 o.length u.1.2)) (fun u w1 => bwR w u o w1) rfl rfl rfl rfl rfl (fun args w => Tryz.call35 args w) (fun ρ w1 hs hok => ?_) fun u => ?_
  · have := dipLies_any s 1 A c l decl B d lv n w1 (hs.ok 801 _ rfl).1 (hs.ok 802 _ rfl).1 hn hl1 (by omega) hd h5 h6
    refine this.mono ?_
    rintro e w' ⟨u, rfl, hb, hr, hk, hst⟩
    rw [← ho] at hr hk hst ⊢
    refine ⟨(u, w'.heap.size), rfl, hb, ⟨hr, fun k h => (hk k h).2, Nat.le_trans hs.fr.size hb.size, Nat.le_refl _⟩, fun k h => ⟨Nat.le_trans (Nat.le_refl _) (hk k h).1, (hk k h).2⟩, ?_⟩
    rintro x1 x2 y1 y2 ⟨y3, y4, y5, y6⟩
    exact ⟨hst x1 x2 y1 y2 y3, y4, y5, Nat.le_trans y6 y2⟩
  refine GO.fin tfine rfl trivial ?_
  refine G.seq ?_
  refine G.seqR tfine rfl trivial ?_
  refine G.cond_false rfl ?_
  refine G.skip ?_
  refine G.seqR tfine rfl trivial ?_
  refine G.fact 812 (φ := (∀ k, sb (.slice u.1.1 o.length u.1.2) k → k < u.2) ∧ w.heap.size ≤ u.2) rfl (fun w1 h => ⟨h.2.1, h.2.2.1⟩) fun hu => ?_
  refine G.openSay 802 806 1 rfl (fun _ h => h) (fun _ h => h) rfl rfl rfl ?_
  refine G.seq (G.seqR tfine rfl trivial ?_)
  refine G.openSay 812 816 41 rfl (fun _ h => h.1) (fun _ h => h) rfl rfl rfl ?_
  refine G.sem fun ρ a w1 hs => ⟨ρ, _, hs.tell (y := 701) (fun _ => False) (RM u.2 0 (elP []) none 0 (fun _ => False)) ⟨fun j => ⟨fun h => h.elim, fun ⟨a, h, _⟩ => by cases h⟩, fun j h => h.elim, .inl ⟨rfl, rfl, rfl⟩⟩ (fun k hk => hk.elim) RM.steady (fun b hb => by cases hb) (fun z c _ _ hk => hk), ?_⟩
  refine G.block (G.loop (fun z : Nat × Grow × Int × List (Int × Int) => St.of [(1, .v (.c (.inp 806 B lv.length d))), (12, .v (.c (.ptr 12 0 0 0))), (6, .v (.c (.ptr 6 0 0 0))), (41, .v (.c (.inp 816 u.1.1 o.length u.1.2))), (42, .v (.c (.k (I o.length)))), (43, .v (.c (.k (I z.1))))]
      [(802, .say (sb (.slice B lv.length d)) (fun w => RdRow w B lv.length 1 (elI lv))), (806, .ro 1 lv.length (elI lv)), (812, .say (sb (.slice u.1.1 o.length u.1.2)) (fun w1 => bwR w u o w1)), (816, .ro 2 o.length (elP o)), (12, .var 47 [.k (.slice z.2.1.A z.1 z.2.1.c), .k (I z.2.2.1)]), (6, .var 47 [.k (.slice none 0 0), .k (I 0)]), (701, .say z.2.1.S (RM u.2 z.1 (elP z.2.2.2) z.2.1.A z.2.1.c z.2.1.S))])
    (fun z => z.1 ≤ o.length ∧ z.2.2.2.length = z.1) (fun z => o.length - z.1) (0, ⟨none, 0, fun _ => False⟩, 0, []) ⟨Nat.zero_le _, rfl⟩
    (St.le_of rfl ⟨⟨_, rfl, Blk.le_refl _⟩, ⟨_, rfl, Blk.le_refl _⟩, ⟨_, rfl, Blk.le_refl _⟩, ⟨_, rfl, Blk.le_refl _⟩, ⟨_, rfl, Blk.le_refl _⟩, ⟨_, rfl, Blk.le_refl _⟩, ⟨_, rfl, Blk.le_refl _⟩, trivial⟩ ⟨rfl, rfl, rfl, rfl, rfl, rfl, trivial⟩) ?_)
  rintro ⟨k, ⟨A2, c2, v2⟩, wd, ms⟩ ⟨hk, hms⟩
  simp only at hk hms
  refine G.fact 701 (φ := (∀ j, v2 j ↔ gb A2 j) ∧ ∀ j, v2 j → u.2 ≤ j) rfl (fun w1 ⟨e2, e3, _⟩ => ⟨e2, e3⟩) fun hv => ?_
  obtain ⟨hv2, hv3⟩ := hv
  refine G.seqR tfine rfl trivial ?_
  refine G.seq (G.cond (b := decide ((k : Int) < (o.length : Int))) rfl (fun h7 => ?_) (fun h7 => ?_))
  rotate_left
  · have h7 := of_decide_eq_false h7
    have hkl : k = o.length := by omega
    refine G.exit ?_
    refine G.seqR tfine rfl trivial ?_
    refine G.ret ⟨.inl rfl, fun ρ a w' hs => ⟨.tuple #[.agg #[.slice A2 k c2, I wd], I 0], results_run tfine hs rfl, (A2, c2), wd, ?_, hs.mem.fr.toBelow⟩⟩
    rw [hkl, hol]
  have h7 := of_decide_eq_true h7
  have hlt : k < o.length := by omega
  have hw3 : IntKind.i64.wrap ((k : Int) + 1) = ((k + 1 : Nat) : Int) := IntWalk.i64_in _ (by omega)
  refine G.skip ?_
  refine G.seq (G.block ?_)
  refine G.seqR tfine rfl ?_ ?_
  · first | trivial | (simp [AllP, condB]; done) | (simp only [AllP]; and_intros <;> first | trivial | decide | omega) | (simp [AllP, condB]; intros; and_intros <;> first | assumption | omega) | (simp [AllP, condB]; intros; simp_all; done)
  refine G.seqR tfine rfl ?_ ?_
  · first | trivial | (simp [AllP, condB]; done) | (simp only [AllP]; and_intros <;> first | trivial | decide | omega) | (simp [AllP, condB]; intros; and_intros <;> first | assumption | omega) | (simp [AllP, condB]; intros; simp_all; done)
  obtain ⟨ml0, hml0⟩ : ∃ ml0 : List (Nat × Blk), ml0 = [(802, .say (sb (.slice B lv.length d)) (fun w => RdRow w B lv.length 1 (elI lv))), (806, .ro 1 lv.length (elI lv)), (812, .say (sb (.slice u.1.1 o.length u.1.2)) (fun w1 => bwR w u o w1)), (816, .ro 2 o.length (elP o)), (12, .var 47 [.k (.slice A2 k c2), .k (I wd)]), (6, .var 47 [.k (.slice none 0 0), .k (I 0)]), (701, .say v2 (RM u.2 k (elP ms) A2 c2 v2)), (14, .var 33 [.k (I (pt o k).1), .k (I (pt o k).2)])] := ⟨_, rfl⟩
  refine G.weaken (st' := St.of [(1, .v (.c (.inp 806 B lv.length d))), (12, .v (.c (.ptr 12 0 0 0))), (6, .v (.c (.ptr 6 0 0 0))), (41, .v (.c (.inp 816 u.1.1 o.length u.1.2))), (42, .v (.c (.k (I o.length)))), (43, .v (.c (.k (I k)))), (13, .v (.c (.k (I k)))), (14, .v (.c (.ptr 14 0 0 0))), (15, .v (.c (.k (I (IntKind.i64.wrap ((pt o k).1.tdiv 1000000))))))]
      [(802, .say (sb (.slice B lv.length d)) (fun w => RdRow w B lv.length 1 (elI lv))), (806, .ro 1 lv.length (elI lv)), (812, .say (sb (.slice u.1.1 o.length u.1.2)) (fun w1 => bwR w u o w1)), (816, .ro 2 o.length (elP o)), (12, .var 47 [.k (.slice A2 k c2), .k (I wd)]), (6, .var 47 [.k (.slice none 0 0), .k (I 0)]), (701, .say v2 (RM u.2 k (elP ms) A2 c2 v2)), (14, .var 33 [.k (I (pt o k).1), .k (I (pt o k).2)])])
    (St.le_of rfl ⟨⟨_, rfl, Blk.le_refl _⟩, ⟨_, rfl, Blk.le_refl _⟩, ⟨_, rfl, Blk.le_refl _⟩, ⟨_, rfl, Blk.le_refl _⟩, ⟨_, rfl, Blk.le_refl _⟩, ⟨_, rfl, Blk.le_refl _⟩, ⟨_, rfl, Blk.le_refl _⟩, ⟨_, rfl, Blk.le_refl _⟩, trivial⟩ ⟨rfl, rfl, rfl, rfl, rfl, rfl, rfl, rfl, rfl, trivial⟩) ?_
  refine G.seq ?_
  obtain ⟨mk, hmk⟩ : ∃ mk : Int × Int, mk = (lv.getD k 0, IntKind.i64.wrap ((pt o k).1.tdiv 1000000)) := ⟨_, rfl⟩
  apply G.drawC (ch := fun j => match j with | 9 => some (growF 701 (k + 1) (fun q => RM u.2 (k + 1) (elP (ms ++ [mk])) (adrV q.1) (cpV q.1) q.2)) | _ => none) (cls := [0, 1, 0, 0, 12, 28, 0, 124, 252, 511, 1023, 2047]) (X := [(9, 701), (11, 12)]) hmix rfl rfl rfl
  · intro ch
    refine GC.more tfine 0 rfl rfl rfl ?_ ?_
    · simp only [AllP]
      and_intros <;> first | trivial | omega
    refine GC.choice 9 rfl _ rfl (StepsC.appendSay (el := elP ms) 701 [I mk.1, I mk.2] (fun q => RM u.2 (k + 1) (elP (ms ++ [mk])) (adrV q.1) (cpV q.1) q.2) apMk rfl rfl rfl rfl rfl rfl (fun j hj => (hv2 j).2 hj) (fun w1 ⟨e2, e3, e4⟩ => e4) (fun j hj => Nat.le_trans hu.2 (hv3 j ((hv2 j).2 hj))) (fun ρ a w2 hs2 x b hx hb hlv => ?_) rfl (by rw [hmk]; rfl) rfl (fun q hq => by simp at hq; rcases hq with rfl | rfl <;> rfl) (fun j hj => rfl) (by unfold maxLen; omega) (by omega) (fun ρ a w2 hs2 g c' w' hc' hg hglt hsz hgr => ?_) (fun i => RM.steady)) rfl (fun v x hx => ?_) rfl ?_
    · have hq : lkM ml0 x = some b ∨ b.own := by
        refine canF_all (Q := fun y b => lkM ml0 y = some b ∨ b.own) (i := 9) ?_ ?_ ?_ x b hb
        · rfl
        · rw [hml0]; exact fun y b h => .inl h
        · simp [allRc, allMs, Blk.own]
      rcases hq with hq | hq
      · rcases lkM_mem (ml := ml0) (j := x) with h8 | ⟨q, hq1, rfl, h8⟩
        · rw [h8] at hq; cases hq
        rw [h8] at hq
        injection hq with hq
        rw [hml0] at hq1
        simp only [List.mem_cons, List.not_mem_nil, or_false] at hq1
        rcases hq1 with rfl | rfl | rfl | rfl | rfl | rfl | rfl | rfl
        · subst hq
          exact .inr fun j h1 h2 => by have := hltB j h1; have := hv3 j h2; have := hu.2; omega
        · subst hq
          refine .inr fun j h1 h2 => ?_
          have h9 : TV.rep ρ _ (.v (.c (.inp 806 B lv.length d))) _ := hs2.tm 1
          have h10 := h9.1.2 (show 0 < lv.length by omega)
          have h11 := hltB (ρ 806).1 ⟨by omega, _, h10, rfl⟩
          have h1 : j = (ρ 806).1 := h1
          have := hv3 j h2
          have := hu.2
          omega
        · subst hq
          exact .inr fun j h1 h2 => by have := hu.1 j h1; have := hv3 j h2; omega
        · subst hq
          refine .inr fun j h1 h2 => ?_
          have h9 : TV.rep ρ _ (.v (.c (.inp 816 u.1.1 o.length u.1.2))) _ := hs2.tm 41
          have h10 := h9.1.2 (show 0 < o.length by omega)
          have h11 := hu.1 (ρ 816).1 ⟨by omega, _, h10, rfl⟩
          have h1 : j = (ρ 816).1 := h1
          have := hv3 j h2
          omega
        · exact .inl (hq ▸ trivial)
        · exact .inl (hq ▸ trivial)
        · exact absurd rfl hx
        · exact .inl (hq ▸ trivial)
      · exact .inl hq
    · have h9 := (hs2.mem.ok 812 _ rfl).1
      have h9 : u.2 ≤ w2.heap.size := h9.2.2.2
      refine ⟨fun j => Iff.rfl, fun j hj => ?_, ?_⟩
      · obtain ⟨a', ha, rfl⟩ := hj
        injection ha with ha
        rw [← ha]
        rcases hg with h | h
        · exact hv3 g ((hv2 g).2 ⟨_, h, rfl⟩)
        · exact Nat.le_trans h9 h
      · rcases hgr with ⟨h0, _⟩ | ⟨b', e, ho', hn'⟩
        · omega
        · exact .inr ⟨b', e, ho'.congr fun i hi => by
            have := elP_snoc ms mk i (by omega)
            rw [hms] at this
            exact this, hn'⟩
    · simp only [growF, mget] at hx
      cases hb1 : Nat.beq x 701 with
      | true => rw [Nat.eq_of_beq_eq_true hb1]; exact .head _
      | false => rw [hb1] at hx; cases hx
    refine GC.more tfine 10 rfl rfl rfl trivial ?_
    refine GC.nil ?_
    refine G.reg tfine rfl ?_ ?_
    · first | trivial | (simp [AllP, condB]; done) | (simp only [AllP]; and_intros <;> first | trivial | decide | omega) | (simp [AllP, condB]; intros; and_intros <;> first | assumption | omega) | (simp [AllP, condB]; intros; simp_all; done)
    refine G.reg tfine rfl trivial ?_
    refine ⟨(k + 1, ⟨adrV (ch 9).1, cpV (ch 9).1, (ch 9).2⟩, _, ms ++ [mk]), ⟨hlt, by simp [hms]⟩, (by show o.length - (k + 1) < o.length - k; omega), St.le_of rfl ⟨⟨_, rfl, Blk.le_refl _⟩, ⟨_, rfl, Blk.le_refl _⟩, ⟨_, rfl, Blk.le_refl _⟩, ⟨_, rfl, Blk.le_refl _⟩, ⟨_, rfl, Blk.le_refl _⟩, ⟨_, rfl, Blk.le_refl _⟩, ⟨_, rfl, Blk.le_refl _⟩, trivial⟩ ⟨rfl, rfl, rfl, rfl, rfl, ?_, trivial⟩⟩
    show TV.v (.c (.k (I (IntKind.i64.wrap ((k : Int) + 1))))) = _
    rw [hw3]
  ·
    intro c c' j hj h
    have hj : j < 12 := hj
    match j, hj, h with
    | 0, _, h => first | rfl | (show some _ = some _; done)
    | 1, _, h => first | rfl | (show some _ = some _; done)
    | 2, _, h => first | rfl | (show some _ = some _; done)
    | 3, _, h => first | rfl | (show some _ = some _; done)
    | 4, _, h => first | rfl | (show some _ = some _; done)
    | 5, _, h => first | rfl | (show some _ = some _; done)
    | 6, _, h => first | rfl | (show some _ = some _; done)
    | 7, _, h => first | rfl | (show some _ = some _; done)
    | 8, _, h => first | rfl | (show some _ = some _; done)
    | 9, _, h => first | rfl | (show some _ = some _; (try rw [h 9 (.inl rfl)]); (try rw [h 9 (.inr ⟨rfl, rfl⟩)]); done)
    | 10, _, h => first | rfl | (show some _ = some _; (try rw [h 9 (.inl rfl)]); (try rw [h 9 (.inr ⟨rfl, rfl⟩)]); done)
    | 11, _, h => first | rfl | (show some _ = some _; (try rw [h 9 (.inl rfl)]); (try rw [h 9 (.inr ⟨rfl, rfl⟩)]); done)
    | q + 12, hj, h => exact absurd hj (by omega)
end Go.Proofs.YtphipfmidfoflaaGreat
/- Top: ten divided in three. -/
set_option linter.unusedVariables false
set_option linter.unusedSimpArgs false
set_option maxRecDepth 8000
set_option maxHeartbeats 2000000
namespace Go.Proofs.YtphipfmidfoflaaGreat
open Go.Sx Go.RowKit
/-! ### Comparing -/
def sgnI (p q : Int) : Int := if p < q then -1 else if q < p then 1 else 0
theorem isNaNi_any (n : Int) (w : World) : Calls Tryz.prog 74 #[I n] w fun e w' => e = .returned (.bool false) ∧ Below w.heap.size w w' := by
  refine enterPlain tfine Tryz.func74 rfl 6 Tryz.ntmps74 [.c (.k (I n))] [] rfl rfl trivial ⟨trivial, trivial⟩ ?_
  refine G.seqR tfine rfl trivial ?_
  refine G.seqR tfine rfl trivial ?_
  exact G.ret (endK.ret rfl (by simp))
theorem cmpi_any (p q : Int) (w : World) : Calls Tryz.prog 41 #[I p, I q] w fun e w' => e = .returned (I (sgnI p q)) ∧ Below w.heap.size w w' := by
  refine enterPlain tfine Tryz.func41 rfl 20 Tryz.ntmps41 [.c (.k (I p)), .c (.k (I q))] [] rfl rfl trivial ⟨trivial, trivial, trivial⟩ ?_
  refine G.seqR tfine rfl trivial ?_
  refine G.seqC tfine rfl trivial ?_
  refine GO.callPlain rfl rfl rfl rfl (fun args w => Tryz.call74 args w) (fun ρ w _ _ => isNaNi_any p w) ?_
  refine GO.fin tfine rfl trivial ?_
  refine G.seqC tfine rfl trivial ?_
  refine GO.callPlain rfl rfl rfl rfl (fun args w => Tryz.call74 args w) (fun ρ w _ _ => isNaNi_any q w) ?_
  refine GO.fin tfine rfl trivial ?_
  refine G.seq (G.seqR tfine rfl trivial ?_)
  refine G.cond_false rfl ?_
  refine G.skip ?_
  refine G.seq (G.seqR tfine rfl trivial ?_)
  refine G.cond_false rfl ?_
  refine G.skip ?_
  refine G.seq (G.seqR tfine rfl trivial ?_)
  refine G.cond (b := decide (p < q)) rfl (fun h => ?_) (fun h => ?_)
  · have h := of_decide_eq_true h
    refine G.seqR tfine rfl trivial ?_
    exact G.ret (endK.ret rfl (by rw [sgnI, if_pos (by omega)]))
  have h := of_decide_eq_false h
  refine G.skip ?_
  refine G.seq (G.seqR tfine rfl trivial ?_)
  refine G.cond (b := decide (p > q)) rfl (fun h2 => ?_) (fun h2 => ?_)
  · have h2 := of_decide_eq_true h2
    refine G.seqR tfine rfl trivial ?_
    exact G.ret (endK.ret rfl (by rw [sgnI, if_neg (by omega), if_pos (by omega)]))
  have h2 := of_decide_eq_false h2
  refine G.skip ?_
  refine G.seqR tfine rfl trivial ?_
  exact G.ret (endK.ret rfl (by rw [sgnI, if_neg (by omega), if_neg (by omega)]))
/-! ### The order of three equal rests -/
theorem div1_any (a b : Int) (g : Nat) (R : Option Addr) (rc : Nat) (w : World) (ha : 0 ≤ a ∧ a < 3) (hb : 0 ≤ b ∧ b < 3) (h1 : w.heap[g]? = some (.cells #[.slice R 3 rc] 51 (0, 0))) (h2 : RdRow w R 3 1 (fun _ => [I 1])) (h3 : ∀ k, sb (.slice R 3 rc) k → k ≠ g) :
    Calls Tryz.prog 40 #[I a, I b, Pt g] w fun e w' => e = .returned (I 0) ∧ Below w.heap.size w w' := by
  have hlt := lt_of_heap h1
  refine enterSay [g] [.c (.k (I a)), .c (.k (I b)), .c (.k (Pt g))] [(1000, .var 51 [.k (.slice R 3 rc)]), (801, .say (sb (.slice R 3 rc)) (fun w => RdRow w R 3 1 (fun _ => [I 1])))] Tryz.func40 rfl 15 Tryz.ntmps40 rfl rfl ⟨trivial, trivial, trivial, trivial⟩
    ⟨⟨.head _, [_], ⟨rfl, trivial⟩, h1⟩, ⟨fun _ h => h3 _ h rfl, fun h => h.elim, trivial⟩, ⟨h2, sb_lt h2, steady_row⟩, trivial, trivial⟩ ?_
  refine G.toPtr 2 1000 rfl (.head _) rfl ?_
  refine G.openVar 801 806 1000 0 (A := R) (n := 3) (sz := 1) (el := fun _ => [I 1]) (cap := rc) rfl (fun _ h => h) (fun _ h => h) rfl rfl rfl rfl ?_
  refine G.seqR tfine rfl trivial ?_
  refine G.seqDraw hmix [0, 0, 3, 7, 0, 0, 48, 112, 255, 511] [] rfl rfl rfl ?_
  refine GD.more tfine 0 rfl rfl ?_ ?_
  · simp only [AllP]
    and_intros <;> first | trivial | omega
  refine GD.call (v := I 0) 8 rfl rfl rfl rfl rfl (fun args w => Tryz.call41 args w) (fun m hle ρ w hs hok => cmpi_any 1 1 w) ?_
  refine GD.fin tfine 9 rfl rfl trivial ?_
  refine G.ret ⟨.inl rfl, fun ρ a' w' hs => ⟨_, results_run tfine hs rfl, rfl, ?_⟩⟩
  have h5 := hs.mem.fr
  rw [borT_snd] at h5
  have h6 := (hs.mem.ok 1000 _ rfl)
  refine ⟨h5.os, h5.tape, h5.output, h5.size, fun k hk => ?_⟩
  by_cases e : k = g
  · subst e
    have h7 := h6.2.2.1
    rw [(hs.mem.bo (1000, k) (.head _)).1] at h7
    rw [h1]
    exact h7
  · exact h5.block k hk (by simpa using e)
def clo (g : Nat) : Value := .func (.func 40) #[] #[Pt g]
/-- What the sorting asks of a closure. -/
def Zero3 (g : Nat) (w : World) : Prop := ∀ (a b : Int) (w1 : World), 0 ≤ a ∧ a < 3 → 0 ≤ b ∧ b < 3 → Below w.heap.size w w1 → Calls Tryz.prog 40 #[I a, I b, Pt g] w1 fun e w' => e = .returned (I 0) ∧ Below w1.heap.size w1 w'
theorem insert3_any (g : Nat) (A : Option Addr) (c : Nat) (w : World) (h : RdRow w A 3 1 (fun q => [I (q : Nat)])) (hq : Zero3 g w) :
    Calls Tryz.prog 105 #[.slice A 3 c, I 0, I 3, clo g] w fun e w' => e = .returned (.tuple #[]) ∧ Below w.heap.size w w' := by
  refine enterSay [] [.c (.k (.slice A 3 c)), .c (.k (I 0)), .c (.k (I 3)), .c (.k (clo g))] [(801, .say (sb (.slice A 3 c)) (fun w => RdRow w A 3 1 (fun q => [I (q : Nat)])))] Tryz.func105 rfl 53 Tryz.ntmps105 rfl rfl ⟨trivial, trivial, trivial, trivial, trivial⟩ ⟨⟨h, sb_lt h, steady_row⟩, trivial, trivial⟩ ?_
  refine G.openSay 801 806 0 rfl (fun _ h => h) (fun _ h => h) rfl rfl rfl ?_
  refine G.seqR tfine rfl trivial ?_
  refine G.block (G.loop (fun k : Nat => St.of [(0, .v (.c (.inp 806 A 3 c))), (1, .v (.c (.k (I 0)))), (2, .v (.c (.k (I 3)))), (3, .v (.c (.k (clo g)))), (8, .v (.c (.k (I (k + 1 : Nat)))))]
      [(801, .say (sb (.slice A 3 c)) (fun w => RdRow w A 3 1 (fun q => [I (q : Nat)]))), (806, .ro 1 3 (fun q => [I (q : Nat)]))])
    (fun k => k + 1 ≤ 3) (fun k => 3 - k) 0 (by decide) (St.le_of rfl ⟨⟨_, rfl, Blk.le_refl _⟩, ⟨_, rfl, Blk.le_refl _⟩, trivial⟩ ⟨rfl, rfl, rfl, rfl, rfl, trivial⟩) ?_)
  intro k hk
  refine G.seq ?_
  refine G.seqR tfine rfl trivial ?_
  refine G.cond (b := decide (((k + 1 : Nat) : Int) < 3)) rfl (fun h7 => ?_) (fun h7 => ?_)
  rotate_left
  · exact G.exit ⟨.inr rfl, fun ρ a' w' hs => ⟨_, results_run tfine hs rfl, rfl, hs.mem.fr.toBelow⟩⟩
  have h7 := of_decide_eq_true h7
  refine G.skip ?_
  refine G.seq (G.block ?_)
  refine G.seqR tfine rfl trivial ?_
  refine G.block (G.loop (fun _ : Unit => St.of [(0, .v (.c (.inp 806 A 3 c))), (1, .v (.c (.k (I 0)))), (2, .v (.c (.k (I 3)))), (3, .v (.c (.k (clo g)))), (8, .v (.c (.k (I (k + 1 : Nat))))), (9, .v (.c (.k (I (k + 1 : Nat)))))]
      [(801, .say (sb (.slice A 3 c)) (fun w => RdRow w A 3 1 (fun q => [I (q : Nat)]))), (806, .ro 1 3 (fun q => [I (q : Nat)]))])
    (fun _ => True) (fun _ => 0) () trivial (St.le_of rfl ⟨⟨_, rfl, Blk.le_refl _⟩, ⟨_, rfl, Blk.le_refl _⟩, trivial⟩ ⟨rfl, rfl, rfl, rfl, rfl, rfl, trivial⟩) ?_)
  intro _ _
  have hw1 : IntKind.i64.wrap (((k + 1 : Nat) : Int) - 1) = (k : Int) := by rw [show (((k + 1 : Nat) : Int) - 1) = (k : Int) by omega]; exact IntWalk.i64_in _ (by omega)
  refine G.seq ?_
  refine G.seqDraw hmix [0, 0, 3, 7, 15, 15, 15, 111, 239, 15, 15, 1039, 3599, 7695, 16383, 32767, 65535] [] rfl rfl rfl ?_
  refine GD.more tfine 0 rfl rfl ?_ ?_
  · simp only [AllP, condB, hw1]
    and_intros <;> first | trivial | (intros; omega) | (intros; assumption) | (intros; simp_all; done)
  refine GD.callGuard (I 0) 14 rfl rfl rfl rfl ?_ rfl rfl (fun args w => Tryz.call40 args w) rfl (fun _ m hle ρ w1 hs hok => ?_) ?_
  · first | exact trivial | exact ⟨id, trivial⟩ | exact ⟨id, id, trivial⟩ | exact ⟨id, id, id, trivial⟩
  · have := hq (k + 1 : Nat) (k : Nat) w1 (by omega) (by omega) hs.fr.toBelow
    have e1 : (((k + 1 : Nat) : Int)).toNat = k + 1 := Int.toNat_natCast _
    have e2 : (IntKind.i64.wrap (((k + 1 : Nat) : Int) - 1)).toNat = k := by rw [hw1]; exact Int.toNat_natCast _
    show Calls _ _ #[I ((((k + 1 : Nat) : Int)).toNat : Nat), I ((IntKind.i64.wrap (((k + 1 : Nat) : Int) - 1)).toNat : Nat), Pt g] w1 _
    rw [e1, e2]
    exact this
  refine GD.fin tfine 15 rfl rfl ?_ ?_
  · simp only [AllP, condB]
    and_intros <;> first | trivial | (intros; omega) | (intros; assumption) | (intros; simp_all; done)
  refine G.cond (b := decide (((k + 1 : Nat) : Int) > 0) && decide ((0 : Int) < 0)) rfl (fun h8 => ?_) (fun h8 => ?_)
  · simp at h8
  refine G.exit ?_
  refine G.reg tfine rfl trivial ?_
  refine ⟨k + 1, by omega, (by show 3 - (k + 1) < 3 - k; omega), St.le_of rfl ⟨⟨_, rfl, Blk.le_refl _⟩, ⟨_, rfl, Blk.le_refl _⟩, trivial⟩ ⟨rfl, rfl, rfl, rfl, ?_, trivial⟩⟩
  simp [up, I]; rw [IntWalk.i64_in _ (by omega)]
theorem stable3_any (g : Nat) (A : Option Addr) (c : Nat) (w : World) (h : RdRow w A 3 1 (fun q => [I (q : Nat)])) (hq : Zero3 g w) :
    Calls Tryz.prog 73 #[.slice A 3 c, I 3, clo g] w fun e w' => e = .returned (.tuple #[]) ∧ Below w.heap.size w w' := by
  refine enterSay [] [.c (.k (.slice A 3 c)), .c (.k (I 3)), .c (.k (clo g))] [(801, .say (sb (.slice A 3 c)) (fun w => RdRow w A 3 1 (fun q => [I (q : Nat)])))] Tryz.func73 rfl 63 Tryz.ntmps73 rfl rfl ⟨trivial, trivial, trivial, trivial⟩ ⟨⟨h, sb_lt h, steady_row⟩, trivial, trivial⟩ ?_
  refine G.seqR tfine rfl trivial ?_
  refine G.seqR tfine rfl trivial ?_
  refine G.seq (G.block (G.loop (fun _ : Unit => St.of [(0, .v (.c (.k (.slice A 3 c)))), (1, .v (.c (.k (I 3)))), (2, .v (.c (.k (clo g)))), (6, .v (.c (.k (I 20)))), (7, .v (.c (.k (I 0)))), (8, .v (.c (.k (I 20))))]
      [(801, .say (sb (.slice A 3 c)) (fun w => RdRow w A 3 1 (fun q => [I (q : Nat)])))])
    (fun _ => True) (fun _ => 0) () trivial (St.le_of rfl ⟨⟨_, rfl, Blk.le_refl _⟩, trivial⟩ ⟨rfl, rfl, rfl, rfl, rfl, rfl, trivial⟩) ?_))
  intro _ _
  refine G.seq ?_
  refine G.seqR tfine rfl trivial ?_
  refine G.cond_false rfl ?_
  refine G.exit ?_
  refine G.seqC tfine rfl trivial ?_
  refine GO.callPlain (v := .tuple #[]) rfl rfl rfl rfl (fun args w => Tryz.call105 args w) (fun ρ w1 hs hok => insert3_any g A c w1 (hs.ok 801 _ rfl).1 fun a b w2 ha hb h2 => hq a b w2 ha hb (hs.fr.toBelow.trans (h2.mono hs.fr.size))) ?_
  refine GO.fin tfine rfl trivial ?_
  refine G.block (G.loop (fun _ : Unit => St.of [(1, .v (.c (.k (I 3)))), (6, .v (.c (.k (I 20))))] [])
    (fun _ => True) (fun _ => 0) () trivial (St.le_of rfl trivial ⟨rfl, rfl, trivial⟩) ?_)
  intro _ _
  refine G.seq ?_
  refine G.seqR tfine rfl trivial ?_
  refine G.cond_false rfl ?_
  exact G.exit ⟨.inr rfl, fun ρ a' w' hs => ⟨_, results_run tfine hs rfl, rfl, hs.mem.fr.toBelow⟩⟩
theorem sortStable3_any (g : Nat) (A : Option Addr) (c : Nat) (w : World) (h : RdRow w A 3 1 (fun q => [I (q : Nat)])) (hq : Zero3 g w) :
    Calls Tryz.prog 39 #[.slice A 3 c, clo g] w fun e w' => e = .returned (.tuple #[]) ∧ Below w.heap.size w w' := by
  refine enterSay [] [.c (.k (.slice A 3 c)), .c (.k (clo g))] [(801, .say (sb (.slice A 3 c)) (fun w => RdRow w A 3 1 (fun q => [I (q : Nat)])))] Tryz.func39 rfl 9 Tryz.ntmps39 rfl rfl ⟨trivial, trivial, trivial⟩ ⟨⟨h, sb_lt h, steady_row⟩, trivial, trivial⟩ ?_
  refine G.regC tfine rfl trivial ?_
  refine GO.callPlain (v := .tuple #[]) rfl rfl rfl rfl (fun args w => Tryz.call73 args w) (fun ρ w1 hs hok => stable3_any g A c w1 (hs.ok 801 _ rfl).1 fun a b w2 ha hb h2 => hq a b w2 ha hb (hs.fr.toBelow.trans (h2.mono hs.fr.size))) ?_
  refine GO.fin tfine rfl trivial ?_
  exact ⟨.inr rfl, fun ρ a' w' hs => ⟨_, results_run tfine hs rfl, rfl, hs.mem.fr.toBelow⟩⟩
end Go.Proofs.YtphipfmidfoflaaGreat
/- Top: ten divided in three, the shares. -/
set_option linter.unusedVariables false
set_option linter.unusedSimpArgs false
set_option maxRecDepth 8000
set_option maxHeartbeats 2000000
namespace Go.Proofs.YtphipfmidfoflaaGreat
open Go.Sx Go.RowKit
/-! ### Ten in three -/
theorem weigh3_any (A : Option Addr) (c : Nat) (w : World) (h : RdRow w A 3 1 (fun _ => [I 1])) :
    Calls Tryz.prog 37 #[I 10, .slice A 3 c] w fun e w' => e = .returned (.tuple #[I 3, I 0]) ∧ Below w.heap.size w w' := by
  refine enterPlain tfine Tryz.func37 rfl 41 Tryz.ntmps37 [.c (.k (I 10)), .c (.inp 1000 A 3 c)] [⟨1000, A, 1, 3, fun _ => [I 1]⟩] rfl rfl ⟨h, trivial⟩ ⟨trivial, .inl ⟨rfl, rfl, rfl⟩, trivial⟩ ?_
  refine G.seqR tfine rfl trivial ?_
  refine G.seq (G.block ?_)
  refine G.seqC tfine rfl trivial ?_
  refine GO.callPlain (v := .bool true) rfl rfl rfl rfl (fun args w => Tryz.call69 args w) (fun ρ w _ _ => amount_any 10 w) ?_
  refine GO.fin tfine rfl trivial ?_
  refine G.cond_false rfl ?_
  refine G.seqR tfine rfl trivial ?_
  refine G.cond_false rfl ?_
  refine G.seqR tfine rfl trivial ?_
  refine G.cond_false rfl ?_
  refine G.seqC tfine rfl trivial ?_
  refine GO.callPlain (v := .bool true) rfl rfl rfl rfl (fun args w => Tryz.call70 args w) (fun ρ w hs hok => ?_) ?_
  · have := amounts_any A c [1, 1, 1] w ((hs.row (cap := c) rfl (hok _ List.mem_cons_self)).congr fun i hi => by
      match i, hi with
      | 0, _ => rfl
      | 1, _ => rfl
      | 2, _ => rfl) (by decide)
    exact this
  refine GO.fin tfine rfl trivial ?_
  refine G.cond_false rfl ?_
  refine G.skip ?_
  refine G.seqR tfine rfl trivial ?_
  refine G.seq (G.seqR tfine rfl trivial ?_)
  refine G.block (G.loop (fun k : Nat => St.of [(6, .v (.c (.k (I k)))), (25, .v (.c (.inp 1000 A 3 c))), (26, .v (.c (.k (I 3)))), (27, .v (.c (.k (I k))))] [(1000, .ro 1 3 (fun _ => [I 1]))])
    (fun k => k ≤ 3) (fun k => 3 - k) 0 (by decide) (St.le_of rfl ⟨⟨_, rfl, Blk.le_refl _⟩, trivial⟩ ⟨rfl, rfl, rfl, rfl, trivial⟩) ?_)
  intro k hk
  refine G.seqR tfine rfl trivial ?_
  refine G.seq (G.cond (b := decide ((k : Int) < 3)) rfl (fun h7 => ?_) (fun h7 => ?_))
  · have h7 := of_decide_eq_true h7
    have hw3 : IntKind.i64.wrap ((k : Int) + 1) = ((k + 1 : Nat) : Int) := IntWalk.i64_in _ (by omega)
    refine G.skip ?_
    refine G.seq (G.block ?_)
    refine G.seqR tfine rfl ?_ ?_
    · first | trivial | (simp [AllP, condB]; done) | (simp only [AllP]; and_intros <;> first | trivial | decide | omega) | (simp [AllP, condB]; intros; and_intros <;> first | assumption | omega) | (simp [AllP, condB]; intros; simp_all; done)
    refine G.reg tfine rfl trivial ?_
    refine G.reg tfine rfl trivial ?_
    refine ⟨k + 1, by omega, (by show 3 - (k + 1) < 3 - k; omega), St.le_of rfl ⟨⟨_, rfl, Blk.le_refl _⟩, trivial⟩ ⟨?_, rfl, rfl, ?_, trivial⟩⟩
    · show TV.v (.c (.k (I (IntKind.i64.wrap ((k : Int) + 1))))) = _
      rw [hw3]
    · show TV.v (.c (.k (I (IntKind.i64.wrap ((k : Int) + 1))))) = _
      rw [hw3]
  have h7 := of_decide_eq_false h7
  have : k = 3 := by omega
  subst this
  refine G.exit ?_
  refine G.seq ?_
  refine G.seqC tfine rfl trivial ?_
  refine GO.callPlain (v := .bool true) rfl rfl rfl rfl (fun args w => Tryz.call69 args w) (fun ρ w _ _ => amount_any 3 w) ?_
  refine GO.fin tfine rfl trivial ?_
  refine G.cond_false rfl ?_
  refine G.skip ?_
  refine G.seq ?_
  refine G.seqR tfine rfl trivial ?_
  refine G.cond_false rfl ?_
  refine G.skip ?_
  refine G.seqR tfine rfl trivial ?_
  exact G.ret (endK.ret rfl rfl)
def shV (k q : Nat) : Int := if q < k then 3 else 0
def reV (k q : Nat) : Int := if q < k then 1 else 0
def odV (k q : Nat) : Int := if q < k then (q : Int) else 0
theorem divide_any (A : Option Addr) (c : Nat) (w : World) (h : RdRow w A 3 1 (fun _ => [I 1])) :
    Calls Tryz.prog 19 #[I 10, .slice A 3 c] w fun e w' => RowAns w w' [4, 3, 3] 0 e := by
  refine enterSay [] [.c (.k (I 10)), .c (.k (.slice A 3 c))] [(801, .say (sb (.slice A 3 c)) (fun w => RdRow w A 3 1 (fun _ => [I 1])))] Tryz.func19 rfl 84 Tryz.ntmps19 rfl rfl ⟨trivial, trivial, trivial⟩ ⟨⟨h, sb_lt h, steady_row⟩, trivial, trivial⟩ ?_
  refine G.seqR tfine rfl trivial ?_
  refine G.seqC tfine rfl trivial ?_
  refine GO.callPlain (v := .tuple #[I 3, I 0]) rfl rfl rfl rfl (fun args w => Tryz.call37 args w) (fun ρ w hs hok => weigh3_any A c w (hs.ok 801 _ rfl).1) ?_
  refine GO.fin tfine rfl trivial ?_
  refine G.openSay 801 806 1 rfl (fun _ h => h) (fun _ h => h) rfl rfl rfl ?_
  refine G.seq ?_
  refine G.seqR tfine rfl trivial ?_
  refine G.cond_false rfl ?_
  refine G.skip ?_
  refine G.seqDraw hmix [0, 1, 3, 0, 8, 24, 0, 64, 192, 0, 519, 1599, 4095] [(2, 26), (5, 29), (8, 32), (11, 9)] rfl rfl rfl ?_
  refine GD.more tfine 0 rfl rfl trivial ?_
  refine GD.make1 2 3 rfl apT35 rfl rfl rfl rfl rfl rfl rfl rfl rfl (by decide) (by unfold maxLen; omega) (by omega) rfl ?_
  refine GD.more tfine 3 rfl rfl trivial ?_
  refine GD.make1 5 3 rfl apT35 rfl rfl rfl rfl rfl rfl rfl rfl rfl (by decide) (by unfold maxLen; omega) (by omega) rfl ?_
  refine GD.more tfine 6 rfl rfl trivial ?_
  refine GD.make1 8 3 rfl apT35 rfl rfl rfl rfl rfl rfl rfl rfl rfl (by decide) (by unfold maxLen; omega) (by omega) rfl ?_
  refine GD.fin tfine 9 rfl rfl trivial ?_
  refine G.seqR tfine rfl trivial ?_
  refine G.seq (G.seqR tfine rfl trivial ?_)
  refine G.block (G.loop (fun k : Nat => St.of [(0, .v (.c (.k (I 10)))), (6, .v (.c (.k (I 3)))), (8, .v (.c (.slc 26 0 1 3 3))), (9, .v (.c (.ptr 9 0 0 0))), (10, .v (.c (.slc 32 0 1 3 3))), (11, .v (.c (.k (I (10 - 3 * k))))), (34, .v (.c (.inp 806 A 3 c))), (35, .v (.c (.k (I 3)))), (36, .v (.c (.k (I k))))]
      [(801, .say (sb (.slice A 3 c)) (fun w => RdRow w A 3 1 (fun _ => [I 1]))), (806, .ro 1 3 (fun _ => [I 1])), (9, .var 51 [.slc 29 0 1 3 3]), (26, .arr 3 1 3 (fun q => [I (shV k q)]) 0), (29, .arr 3 1 3 (fun q => [I (reV k q)]) 0), (32, .arr 3 1 3 (fun q => [I (odV k q)]) 0)])
    (fun k => k ≤ 3) (fun k => 3 - k) 0 (by decide) (St.le_of rfl ⟨⟨_, rfl, Blk.le_refl _⟩, ⟨_, rfl, Blk.le_refl _⟩, ⟨_, rfl, Blk.le_refl _⟩, ⟨_, rfl, Blk.le_refl _⟩, ⟨_, rfl, Blk.le_refl _⟩, ⟨_, rfl, Blk.le_refl _⟩, trivial⟩ ⟨rfl, rfl, rfl, rfl, rfl, rfl, rfl, rfl, rfl, trivial⟩) ?_)
  intro k hk
  refine G.seqR tfine rfl trivial ?_
  refine G.seq (G.cond (b := decide ((k : Int) < 3)) rfl (fun h7 => ?_) (fun h7 => ?_))
  · have h7 := of_decide_eq_true h7
    have hw3 : IntKind.i64.wrap ((k : Int) + 1) = ((k + 1 : Nat) : Int) := IntWalk.i64_in _ (by omega)
    refine G.skip ?_
    refine G.seq (G.block ?_)
    refine G.seqR tfine rfl ?_ ?_
    · first | trivial | (simp [AllP, condB]; done) | (simp only [AllP]; and_intros <;> first | trivial | decide | omega) | (simp [AllP, condB]; intros; and_intros <;> first | assumption | omega) | (simp [AllP, condB]; intros; simp_all; done)
    refine G.seqDraw hmix [0, 0, 0, 0, 0, 0, 0, 112, 240, 496, 496, 496, 1011, 5107, 14335, 30719] [(13, 26), (15, 29)] rfl rfl rfl ?_
    refine GD.more tfine 0 rfl rfl trivial ?_
    refine GD.call (v := .tuple #[I 3, I 1, .bool true]) 7 rfl rfl rfl rfl rfl (fun args w => Tryz.call38 args w) (fun m hle ρ w hs hok => divided_any 10 1 3 (by decide) (by decide) (by decide) w) ?_
    refine GD.fin tfine 8 rfl rfl ?_ ?_
    · simp only [AllP, Int.toNat_natCast, Nat.zero_add]
      and_intros <;> first | trivial | omega
    refine G.weaken (st' := St.of [(0, .v (.c (.k (I 10)))), (6, .v (.c (.k (I 3)))), (8, .v (.c (.slc 26 0 1 3 3))), (9, .v (.c (.ptr 9 0 0 0))), (10, .v (.c (.slc 32 0 1 3 3))), (11, .v (.c (.k (I (10 - 3 * k))))), (12, .v (.c (.k (I k)))), (34, .v (.c (.inp 806 A 3 c))), (35, .v (.c (.k (I 3)))), (36, .v (.c (.k (I k))))]
        [(801, .say (sb (.slice A 3 c)) (fun w => RdRow w A 3 1 (fun _ => [I 1]))), (806, .ro 1 3 (fun _ => [I 1])), (9, .var 51 [.slc 29 0 1 3 3]), (26, .arr 3 1 3 (fun q => [I (shV (k + 1) q)]) 0), (29, .arr 3 1 3 (fun q => [I (reV (k + 1) q)]) 0), (32, .arr 3 1 3 (fun q => [I (odV k q)]) 0)])
      (St.le_of rfl ⟨⟨_, rfl, Blk.le_refl _⟩, ⟨_, rfl, Blk.le_refl _⟩, ⟨_, rfl, Blk.le_refl _⟩, ⟨_, rfl, rfl, rfl, Nat.le_refl _, fun j hj => ?_, Nat.le_refl _⟩, ⟨_, rfl, rfl, rfl, Nat.le_refl _, fun j hj => ?_, Nat.le_refl _⟩, ⟨_, rfl, Blk.le_refl _⟩, trivial⟩ ⟨rfl, rfl, rfl, rfl, rfl, rfl, rfl, rfl, rfl, rfl, trivial⟩) ?_
    · show [I (shV (k + 1) j)] = (bif Nat.beq j (0 + ((k : Nat) : Int).toNat) then [I 3] else [I (shV k j)])
      rw [Int.toNat_natCast, Nat.zero_add]
      unfold shV
      by_cases e : j = k
      · subst e; simp
      · rw [show Nat.beq j k = false from Bool.eq_false_iff.2 fun h => e (Nat.eq_of_beq_eq_true h)]
        by_cases e2 : j < k
        · rw [if_pos e2, if_pos (by omega)]; rfl
        · rw [if_neg e2, if_neg (by omega)]; rfl
    · show [I (reV (k + 1) j)] = (bif Nat.beq j (0 + ((k : Nat) : Int).toNat) then [I 1] else [I (reV k j)])
      rw [Int.toNat_natCast, Nat.zero_add]
      unfold reV
      by_cases e : j = k
      · subst e; simp
      · rw [show Nat.beq j k = false from Bool.eq_false_iff.2 fun h => e (Nat.eq_of_beq_eq_true h)]
        by_cases e2 : j < k
        · rw [if_pos e2, if_pos (by omega)]; rfl
        · rw [if_neg e2, if_neg (by omega)]; rfl
    refine G.seqR tfine rfl ?_ ?_
    · simp only [AllP, Int.toNat_natCast, Nat.zero_add]
      and_intros <;> first | trivial | omega
    refine G.reg tfine rfl ?_ ?_
    · simp only [AllP, Int.toNat_natCast, Nat.zero_add]
      and_intros <;> first | trivial | omega
    refine G.reg tfine rfl trivial ?_
    refine ⟨k + 1, by omega, (by show 3 - (k + 1) < 3 - k; omega), St.le_of rfl ⟨⟨_, rfl, Blk.le_refl _⟩, ⟨_, rfl, Blk.le_refl _⟩, ⟨_, rfl, Blk.le_refl _⟩, ⟨_, rfl, Blk.le_refl _⟩, ⟨_, rfl, Blk.le_refl _⟩, ⟨_, rfl, rfl, rfl, Nat.le_refl _, fun j hj => ?_, Nat.le_refl _⟩, trivial⟩ ⟨rfl, rfl, rfl, rfl, rfl, ?_, rfl, rfl, ?_, trivial⟩⟩
    · show [I (odV (k + 1) j)] = (bif Nat.beq j (0 + ((k : Nat) : Int).toNat) then [I k] else [I (odV k j)])
      rw [Int.toNat_natCast, Nat.zero_add]
      unfold odV
      by_cases e : j = k
      · subst e; simp
      · rw [show Nat.beq j k = false from Bool.eq_false_iff.2 fun h => e (Nat.eq_of_beq_eq_true h)]
        by_cases e2 : j < k
        · rw [if_pos e2, if_pos (by omega)]; rfl
        · rw [if_neg e2, if_neg (by omega)]; rfl
    · show TV.v (.c (.k (I (IntKind.i64.wrap ((10 - 3 * (k : Int)) - shV (k + 1) (0 + ((k : Nat) : Int).toNat)))))) = _
      rw [Int.toNat_natCast, Nat.zero_add, show shV (k + 1) k = 3 by simp [shV], IntWalk.i64_in _ (by omega)]
      rw [show (10 - 3 * (k : Int)) - 3 = 10 - 3 * ((k + 1 : Nat) : Int) by omega]
    · show TV.v (.c (.k (I (IntKind.i64.wrap ((k : Int) + 1))))) = _
      rw [hw3]
  have h7 := of_decide_eq_false h7
  have : k = 3 := by omega
  subst this
  refine G.exit ?_
  refine G.seqC tfine rfl trivial ?_
  refine GO.callPlain (v := .tuple #[]) rfl rfl rfl rfl (fun args w => Tryz.call39 args w) (fun ρ w1 hs hok => ?_) ?_
  · have k9 := hs.ok 9 (.var 51 [.slc 29 0 1 3 3]) rfl
    have k29 := hs.ok 29 (.arr 3 1 3 (fun q => [I (reV 3 q)]) 0) rfl
    have hne := hs.ne 29 9 (.arr 3 1 3 (fun q => [I (reV 3 q)]) 0) (.var 51 [.slc 29 0 1 3 3]) rfl rfl trivial trivial (by decide)
    have hne : (ρ 29).1 ≠ (ρ 9).1 := hne
    have hrow := hs.rdArr (x := 32) (sz := 1) (n := 3) (ty := 3) (el := fun q => [I (odV 3 q)]) (room := 0) rfl 0 3 (Nat.le_refl _)
    have hre := hs.rdArr (x := 29) (sz := 1) (n := 3) (ty := 3) (el := fun q => [I (reV 3 q)]) (room := 0) rfl 0 3 (Nat.le_refl _)
    have z9 := k9.2.2.1
    have := sortStable3_any (ρ 9).1 (some ⟨(ρ 32).1, (ρ 32).2 + 0 * 1, none⟩) 3 w1 (hrow.congr fun q hq => by simp [odV, hq]) (fun a b w2 ha hb h2 => by
      refine div1_any a b (ρ 9).1 (some ⟨(ρ 29).1, (ρ 29).2 + 0 * 1, none⟩) 3 w2 ha hb ?_ ?_ ?_
      · rw [h2.block _ (lt_of_heap z9)]
        exact z9
      · refine (hre.below h2).congr fun q hq => by simp [reV, hq]
      · rintro j ⟨_, a', e, rfl⟩
        injection e with e
        rw [← e]
        exact hne)
    have e : ([AV.c (.slc 32 0 1 3 3), .c (.fn 40 [.own 9 0])].map (AV.conc ρ) ++ [].map (Cap.conc ρ)).toArray = #[.slice (some ⟨(ρ 32).1, (ρ 32).2 + 0 * 1, none⟩) 3 3, clo (ρ 9).1] := by
      simp [AV.conc, AC.conc, Cap.conc, k9.1, clo, Pt]
    exact e ▸ this
  refine GO.fin tfine rfl trivial ?_
  refine G.seq (G.seqR tfine rfl trivial ?_)
  refine G.block (G.loop (fun k : Nat => St.of [(8, .v (.c (.slc 26 0 1 3 3))), (10, .v (.c (.slc 32 0 1 3 3))), (69, .v (.c (.k (I 1)))), (70, .v (.c (.k (I k))))]
      [(26, .arr 3 1 3 (fun q => [I (shV 3 q + if q < k then 1 else 0)]) 0), (32, .arr 3 1 3 (fun q => [I (odV 3 q)]) 0)])
    (fun k => k ≤ 1) (fun k => 1 - k) 0 (by decide) (St.le_of rfl ⟨⟨_, rfl, rfl, rfl, Nat.le_refl _, fun j hj => by simp, Nat.le_refl _⟩, ⟨_, rfl, Blk.le_refl _⟩, trivial⟩ ⟨rfl, rfl, rfl, rfl, trivial⟩) ?_)
  intro k hk
  refine G.seqR tfine rfl trivial ?_
  refine G.seq (G.cond (b := decide ((k : Int) < 1)) rfl (fun h7 => ?_) (fun h7 => ?_))
  · have h7 := of_decide_eq_true h7
    have : k = 0 := by omega
    subst this
    refine G.skip ?_
    refine G.seq (G.block ?_)
    refine G.seqR tfine rfl trivial ?_
    refine G.reg tfine rfl ?_ ?_
    · simp only [AllP]
      and_intros <;> first | trivial | decide
    refine G.reg tfine rfl trivial ?_
    refine ⟨1, by decide, by decide, St.le_of rfl ⟨⟨_, rfl, rfl, rfl, Nat.le_refl _, fun j hj => ?_, Nat.le_refl _⟩, ⟨_, rfl, Blk.le_refl _⟩, trivial⟩ ⟨rfl, rfl, rfl, rfl, trivial⟩⟩
    match j, hj with
    | 0, _ => rfl
    | 1, _ => rfl
    | 2, _ => rfl
  have h7 := of_decide_eq_false h7
  have : k = 1 := by omega
  subst this
  refine G.exit ?_
  refine G.weaken (st' := St.of [(8, .v (.c (.slc 26 0 1 3 3)))] [(26, .arr 3 1 3 (elI [4, 3, 3]) 0)]) (St.le_of rfl ⟨⟨_, rfl, rfl, rfl, Nat.le_refl _, fun j hj => ?_, Nat.le_refl _⟩, trivial⟩ ⟨rfl, trivial⟩) ?_
  · match j, hj with
    | 0, _ => rfl
    | 1, _ => rfl
    | 2, _ => rfl
  refine G.freezeArr 26 8 rfl rfl (Nat.le_refl _) fun g hg => ?_
  refine G.seqR tfine rfl trivial ?_
  exact G.ret (retRow (o := [4, 3, 3]) tfine 26 rfl hg rfl)
end Go.Proofs.YtphipfmidfoflaaGreat
/- Top: rods. -/
set_option linter.unusedVariables false
set_option linter.unusedSimpArgs false
set_option maxRecDepth 8000
set_option maxHeartbeats 2000000
namespace Go.Proofs.YtphipfmidfoflaaGreat
open Go.Sx Go.RowKit
/-! ### A table of two marks -/
def tb : List (Int × Int) := [(0, 0), (10, 100)]
theorem read10_any (A : Option Addr) (c : Nat) (h : Int) (w : World) (hl : RdRow w A 2 2 (elM tb)) (hh : 0 ≤ h ∧ h ≤ 10) :
    Calls Tryz.prog 80 #[.agg #[.slice A 2 c, I 0], I h] w fun e w' => e = .returned (I (10 * h)) ∧ Below w.heap.size w w' := by
  refine enterPlain tfine Tryz.func80 rfl 48 Tryz.ntmps80 [.agg [.inp 1000 A 2 c, .k (I 0)], .c (.k (I h))] [⟨1000, A, 2, 2, elM tb⟩] rfl rfl ⟨hl, trivial⟩ ⟨⟨.inl ⟨rfl, rfl, rfl⟩, trivial, trivial⟩, trivial, trivial⟩ ?_
  refine G.seqR tfine rfl trivial ?_
  refine G.seqR tfine rfl trivial ?_
  refine G.seq (G.block (G.loop (fun _ : Unit => St.of [(1, .v (.c (.k (I h)))), (2, .v (.c (.ptr 2 0 0 0))), (5, .v (.c (.k (I 1))))] [(2, .var 47 [.inp 1000 A 2 c, .k (I 0)]), (1000, .ro 2 2 (elM tb))])
    (fun _ => True) (fun _ => 0) () trivial
    (St.le_of rfl ⟨⟨_, rfl, Blk.le_refl _⟩, ⟨_, rfl, Blk.le_refl _⟩, trivial⟩ ⟨rfl, rfl, rfl, trivial⟩) ?_))
  intro _ _
  refine G.seq (G.seqR tfine rfl ?_ ?_)
  · simp only [AllP]
    and_intros <;> first | trivial | decide
  refine G.cond (b := decide ((10 : Int) < h)) rfl (fun h6 => ?_) (fun h6 => ?_)
  · have h6 := of_decide_eq_true h6
    omega
  refine G.exit ?_
  refine G.seqD tfine hmix [0, 1, 0, 4, 15, 31, 0, 64, 0, 448, 960, 0, 0, 6207, 16383] [(13, 6), (14, 7)] rfl rfl rfl rfl ?_ ?_
  · simp only [AllP]
    and_intros <;> first | trivial | decide
  refine G.seqD tfine hmix [0, 1, 0, 4, 0, 16, 60, 0, 0, 256, 896, 2044, 0, 4096, 0, 16384, 61440, 131068, 262143, 524287] [] rfl rfl rfl rfl ?_ ?_
  · simp only [AllP]
    and_intros <;> first | trivial | decide
  refine G.ret (endK.ret rfl ?_)
  have h1 : h = 0 ∨ h = 1 ∨ h = 2 ∨ h = 3 ∨ h = 4 ∨ h = 5 ∨ h = 6 ∨ h = 7 ∨ h = 8 ∨ h = 9 ∨ h = 10 := by omega
  rcases h1 with rfl | rfl | rfl | rfl | rfl | rfl | rfl | rfl | rfl | rfl | rfl <;> rfl
theorem readR_any (A : Option Addr) (c : Nat) (h : Int) (w : World) (hl : RdRow w A 2 2 (elM tb)) (hh : 0 ≤ h ∧ h ≤ 10) :
    Calls Tryz.prog 44 #[.agg #[.slice A 2 c, I 0], I h] w fun e w' => e = .returned (.tuple #[I (10 * h), I 0]) ∧ Below w.heap.size w w' := by
  refine enterPlain tfine Tryz.func44 rfl 32 Tryz.ntmps44 [.agg [.inp 1000 A 2 c, .k (I 0)], .c (.k (I h))] [⟨1000, A, 2, 2, elM tb⟩] rfl rfl ⟨hl, trivial⟩ ⟨⟨.inl ⟨rfl, rfl, rfl⟩, trivial, trivial⟩, trivial, trivial⟩ ?_
  refine G.seqR tfine rfl trivial ?_
  refine G.seq (G.seqC tfine rfl trivial ?_)
  refine GO.callPlain (v := I 0) rfl rfl rfl rfl (fun args w => Tryz.call42 args w) (fun ρ w hs hok => dipCheck_any A c tb 0 w (hs.row (cap := c) rfl (hok _ List.mem_cons_self _ List.mem_cons_self)) (by decide)) ?_
  refine GO.fin tfine rfl trivial ?_
  refine G.cond_false rfl ?_
  refine G.skip ?_
  refine G.seq (G.seqR tfine rfl ?_ ?_)
  · simp [AllP, condB, tb]
    and_intros <;> (intro _; decide)
  refine G.cond (b := (decide (h < 0)) || (decide (h > 10))) rfl (fun h6 => ?_) (fun h6 => ?_)
  · simp at h6
    omega
  refine G.skip ?_
  refine G.seqC tfine rfl trivial ?_
  refine GO.callPlain (v := I (10 * h)) rfl rfl rfl rfl (fun args w => Tryz.call80 args w) (fun ρ w hs hok => read10_any A c h w (hs.row (cap := c) rfl (hok _ List.mem_cons_self _ List.mem_cons_self)) hh) ?_
  refine GO.fin tfine rfl trivial ?_
  exact G.ret (endK.ret rfl rfl)
/-! ### The least height -/
def mid (i j : Nat) : Int := IntKind.i64.wrap ((IntKind.u64.wrap (IntKind.i64.wrap ((i : Int) + (j : Int)))).fdiv (2 ^ min (Int.toNat 1) IntKind.u64.bits))
theorem mid_eq (i j : Nat) (h : i + j ≤ 1000000) : mid i j = ((i + j) / 2 : Nat) := by
  unfold mid
  have e0 : (i : Int) + j = ((i + j : Nat) : Int) := by omega
  have e1 : IntKind.i64.wrap ((i + j : Nat) : Int) = ((i + j : Nat) : Int) := IntWalk.i64_in _ (by omega)
  have e2 : (2 : Int) ^ min (Int.toNat 1) IntKind.u64.bits = 2 := by decide
  have e3 : Int.fdiv ((i + j : Nat) : Int) 2 = ((i + j) / 2 : Nat) := by rw [Int.fdiv_eq_ediv_of_nonneg _ (by decide)]; omega
  rw [e0, e1, wrapU _ (by omega), e2, e3]
  exact IntWalk.i64_in _ (by omega)
def srch (q : Nat → Bool) : Nat → Nat → Nat → Nat
  | 0, i, _ => i
  | f + 1, i, j => if i < j then (if q ((i + j) / 2) = true then srch q f i ((i + j) / 2) else srch q f ((i + j) / 2 + 1) j) else i
theorem search_any (n : Nat) (q : Nat → Bool) (p1 p2 p3 : Value) (w : World) (hn : n ≤ 100000)
    (hq : ∀ (i : Nat) (w1 : World), i < n → Below w.heap.size w w1 → Calls Tryz.prog 79 #[I i, p1, p2, p3] w1 fun e w' => e = .returned (.bool (q i)) ∧ Below w1.heap.size w1 w') :
    Calls Tryz.prog 78 #[I n, .func (.func 79) #[] #[p1, p2, p3]] w fun e w' => e = .returned (I (srch q n 0 n)) ∧ Below w.heap.size w w' := by
  refine enterPlain tfine Tryz.func78 rfl 26 Tryz.ntmps78 [.c (.k (I n)), .c (.k (.func (.func 79) #[] #[p1, p2, p3]))] [] rfl rfl trivial ⟨trivial, trivial, trivial⟩ ?_
  refine G.seqR tfine rfl trivial ?_
  refine G.seqR tfine rfl trivial ?_
  refine G.seq (G.block (G.loop (fun z : Nat × Nat × Nat => St.of [(1, .v (.c (.k (.func (.func 79) #[] #[p1, p2, p3])))), (5, .v (.c (.k (I z.1)))), (6, .v (.c (.k (I z.2.1))))] [])
    (fun z => z.1 ≤ z.2.1 ∧ z.2.1 ≤ n ∧ z.2.1 - z.1 ≤ z.2.2 ∧ srch q n 0 n = srch q z.2.2 z.1 z.2.1) (fun z => z.2.1 - z.1) (0, n, n) ⟨Nat.zero_le _, Nat.le_refl _, Nat.le_refl _, rfl⟩ (St.le_of rfl trivial ⟨rfl, rfl, rfl, trivial⟩) ?_))
  rintro ⟨i, j, f⟩ ⟨h1, h2, h3, h4⟩
  simp only at h1 h2 h3 h4
  refine G.seq ?_
  refine G.seqR tfine rfl trivial ?_
  refine G.cond (b := decide ((i : Int) < (j : Int))) rfl (fun h7 => ?_) (fun h7 => ?_)
  rotate_left
  · have h7 := of_decide_eq_false h7
    refine G.exit ?_
    refine G.seqR tfine rfl trivial ?_
    refine G.ret (endK.ret rfl ?_)
    rw [h4]
    cases f with
    | zero => rfl
    | succ f => rw [srch, if_neg (by omega)]
  have h7 := of_decide_eq_true h7
  have hlt : i < j := by omega
  obtain ⟨f, rfl⟩ : ∃ g, f = g + 1 := ⟨f - 1, by omega⟩
  rw [srch, if_pos hlt] at h4
  refine G.skip ?_
  refine G.block ?_
  refine G.seqR tfine rfl ⟨by decide, trivial⟩ ?_
  refine G.weaken (st' := St.of [(1, .v (.c (.k (.func (.func 79) #[] #[p1, p2, p3])))), (5, .v (.c (.k (I i)))), (6, .v (.c (.k (I j)))), (7, .v (.c (.k (I ((i + j) / 2 : Nat)))))] []) (St.le_of rfl trivial ⟨rfl, rfl, rfl, ?_, trivial⟩) ?_
  · show TV.v (.c (.k (I (mid i j)))) = _
    rw [mid_eq i j (by omega)]
  refine G.seqC tfine rfl trivial ?_
  refine GO.callPlain (v := .bool (q ((i + j) / 2))) rfl rfl rfl rfl (fun args w => Tryz.call79 args w) (fun ρ w1 hs hok => hq ((i + j) / 2) w1 (by omega) hs.fr.toBelow) ?_
  refine GO.fin tfine rfl trivial ?_
  refine G.cond (b := !(q ((i + j) / 2))) rfl (fun h8 => ?_) (fun h8 => ?_)
  · rw [if_neg (by simpa using h8)] at h4
    refine G.reg tfine rfl trivial ?_
    refine ⟨((i + j) / 2 + 1, j, f), ⟨by simp only; omega, h2, by simp only; omega, h4⟩, (by show j - ((i + j) / 2 + 1) < j - i; omega), St.le_of rfl trivial ⟨rfl, ?_, rfl, trivial⟩⟩
    show TV.v (.c (.k (I (IntKind.i64.wrap ((((i + j) / 2 : Nat) : Int) + 1))))) = _
    rw [IntWalk.i64_in _ (by omega)]
    rfl
  · rw [if_pos (by simpa using h8)] at h4
    refine G.reg tfine rfl trivial ?_
    exact ⟨(i, (i + j) / 2, f), ⟨by simp only; omega, by simp only; omega, by simp only; omega, h4⟩, (by show (i + j) / 2 - i < j - i; omega), St.le_of rfl trivial ⟨rfl, rfl, rfl, trivial⟩⟩
theorem least1_any (i tg : Int) (g1 g2 g3 : Nat) (A : Option Addr) (c : Nat) (w : World) (hi : 0 ≤ i ∧ i ≤ 10) (h : RdRow w A 2 2 (elM tb)) (h1 : w.heap[g1]? = some (.cells #[.slice A 2 c, I 0] 47 (0, 0))) (h2 : w.heap[g2]? = some (.cells #[I 0] 3 (0, 0))) (h3 : w.heap[g3]? = some (.cells #[I tg] 3 (0, 0))) :
    Calls Tryz.prog 79 #[I i, Pt g1, Pt g2, Pt g3] w fun e w' => e = .returned (.bool (decide (10 * i ≥ tg))) ∧ Below w.heap.size w w' := by
  refine enterOld [.c (.k (I i)), .c (.k (Pt g1)), .c (.k (Pt g2)), .c (.k (Pt g3))] Tryz.func79 rfl 19 Tryz.ntmps79 rfl rfl ⟨trivial, trivial, trivial, trivial, trivial⟩ ?_
  refine G.openPtr (b := g1) (ty := 47) (cs := [.slice A 2 c, I 0]) 1 701 1 rfl (fun w' ha => heap_asOf h1 ha) (lt_of_heap h1) rfl rfl rfl ?_
  refine G.openPtr (b := g2) (ty := 3) (cs := [I 0]) 1 702 2 rfl (fun w' ha => heap_asOf h2 ha) (lt_of_heap h2) rfl rfl rfl ?_
  refine G.openPtr (b := g3) (ty := 3) (cs := [I tg]) 1 703 3 rfl (fun w' ha => heap_asOf h3 ha) (lt_of_heap h3) rfl rfl rfl ?_
  refine G.seqR tfine rfl trivial ?_
  refine G.seqC tfine rfl ?_ ?_
  · simp only [AllP]
    and_intros <;> first | trivial | decide
  refine GO.callPlain (v := .tuple #[I (10 * i), I 0]) rfl rfl rfl rfl (fun args w => Tryz.call44 args w) (fun ρ w1 hs hok => ?_) ?_
  · have := readR_any A c i w1 (h.below hs.fr.toBelow) hi
    show Calls _ _ #[_, I (IntKind.i64.wrap (0 + i))] w1 _
    rw [IntWalk.i64_in _ (by omega), Int.zero_add]
    exact this
  refine GO.fin tfine rfl trivial ?_
  refine G.seqR tfine rfl ?_ ?_
  · simp only [AllP]
    and_intros <;> first | trivial | decide
  exact G.ret (retK.plain tfine rfl rfl)
def leastQ (tg : Int) (i : Nat) : Bool := decide (10 * (i : Int) ≥ tg)
def leastM (tg : Int) : Int := IntKind.i64.wrap (0 + (srch (leastQ tg) 10 0 10 : Nat))
theorem least_any (tg : Int) (A : Option Addr) (c : Nat) (w : World) (h : RdRow w A 2 2 (elM tb)) :
    Calls Tryz.prog 43 #[.agg #[.slice A 2 c, I 0], I tg] w fun e w' => e = .returned (I (leastM tg)) ∧ Below w.heap.size w w' := by
  refine enterPlain tfine Tryz.func43 rfl 28 Tryz.ntmps43 [.agg [.inp 1000 A 2 c, .k (I 0)], .c (.k (I tg))] [⟨1000, A, 2, 2, elM tb⟩] rfl rfl ⟨h, trivial⟩ ⟨⟨.inl ⟨rfl, rfl, rfl⟩, trivial, trivial⟩, trivial, trivial⟩ ?_
  refine G.seqR tfine rfl trivial ?_
  refine G.seqD tfine hmix [0, 1, 3, 7, 15, 0, 32, 0, 128, 384, 896, 2016, 4064, 8160, 0, 16415, 65535] [(15, 5)] rfl rfl rfl rfl ?_ ?_
  · simp only [AllP]
    and_intros <;> first | trivial | decide
  refine G.seqDraw hmix [0, 0, 0, 6, 0, 30, 63, 127] [] rfl rfl rfl ?_
  refine GD.more tfine 0 rfl rfl ?_ ?_
  · simp only [AllP]
  refine GD.call (v := I (srch (leastQ tg) 10 0 10 : Nat)) 5 rfl rfl rfl rfl rfl (fun args w => Tryz.call78 args w) (fun m hle ρ w1 hs hok => ?_) ?_
  · have k2 := hs.ok 2 (.var 47 [.inp 1000 A 2 c, .k (I 0)]) (LeM.at hle rfl)
    have k5 := hs.ok 5 (.var 3 [.k (I 0)]) (LeM.at hle rfl)
    have k3 := hs.ok 3 (.var 3 [.k (I tg)]) (LeM.at hle rfl)
    have z2 : w1.heap[(ρ 2).1]? = some (.cells #[.slice A 2 c, I 0] 47 (0, 0)) := k2.2.2.1
    have z5 : w1.heap[(ρ 5).1]? = some (.cells #[I 0] 3 (0, 0)) := k5.2.2.1
    have z3 : w1.heap[(ρ 3).1]? = some (.cells #[I tg] 3 (0, 0)) := k3.2.2.1
    have := search_any 10 (leastQ tg) (Pt (ρ 2).1) (Pt (ρ 5).1) (Pt (ρ 3).1) w1 (by decide) fun i w2 hi h2 => least1_any i tg (ρ 2).1 (ρ 5).1 (ρ 3).1 A c w2 (by omega) ((h.below hs.fr.toBelow).below h2) (by rw [h2.block _ (lt_of_heap z2)]; exact z2) (by rw [h2.block _ (lt_of_heap z5)]; exact z5) (by rw [h2.block _ (lt_of_heap z3)]; exact z3)
    have e : ([AV.c (.k (I 10)), .c (.fn 79 [.own 2 0, .own 5 0, .own 3 0])].map (AV.conc ρ) ++ [].map (Cap.conc ρ)).toArray = #[I (10 : Nat), .func (.func 79) #[] #[Pt (ρ 2).1, Pt (ρ 5).1, Pt (ρ 3).1]] := by
      simp [AV.conc, AC.conc, Cap.conc, k2.1, k5.1, k3.1, Pt]
    exact e ▸ this
  refine GD.fin tfine 6 rfl rfl trivial ?_
  exact G.ret (endK.ret rfl rfl)
theorem least_eq (k : Nat) (hk : k < 3) : leastM (30 * ((k + 1 : Nat) : Int)) = 3 * ((k + 1 : Nat) : Int) := by
  have : k = 0 ∨ k = 1 ∨ k = 2 := by omega
  rcases this with rfl | rfl | rfl <;> rfl
theorem lenE (k : Nat) (hk : k < 3) : IntKind.i64.wrap (IntKind.i64.wrap ((10 * (3 * ((k + 1 : Nat) : Int))).tdiv 30) * 30) = 30 * ((k + 1 : Nat) : Int) := by
  have : k = 0 ∨ k = 1 ∨ k = 2 := by omega
  rcases this with rfl | rfl | rfl <;> rfl
theorem make_any (A : Option Addr) (c : Nat) (w : World) (h : RdRow w A 2 2 (elM tb)) :
    Calls Tryz.prog 20 #[.agg #[.slice A 2 c, I 0], I 30] w fun e w' => (∃ u : Option Addr × Nat, e = .returned (.tuple #[.slice u.1 3 u.2, I 0])) ∧ Below w.heap.size w w' := by
  refine enterSay [] [.agg [.k (.slice A 2 c), .k (I 0)], .c (.k (I 30))] [(801, .say (sb (.slice A 2 c)) (fun w => RdRow w A 2 2 (elM tb)))] Tryz.func20 rfl 64 Tryz.ntmps20 rfl rfl ⟨⟨trivial, trivial, trivial⟩, trivial, trivial⟩ ⟨⟨h, sb_lt h, steady_row⟩, trivial, trivial⟩ ?_
  refine G.seqR tfine rfl trivial ?_
  refine G.seq ?_
  refine G.seqC tfine rfl trivial ?_
  refine GO.callPlain (v := I 0) rfl rfl rfl rfl (fun args w => Tryz.call42 args w) (fun ρ w hs hok => dipCheck_any A c tb 0 w (hs.ok 801 _ rfl).1 (by decide)) ?_
  refine GO.fin tfine rfl trivial ?_
  refine G.cond_false rfl ?_
  refine G.skip ?_
  refine G.seq ?_
  refine G.seqR tfine rfl ?_ ?_
  · first | trivial | (simp [AllP, condB]; done) | (simp only [AllP]; and_intros <;> first | trivial | decide | omega) | (simp [AllP, condB]; intros; and_intros <;> first | assumption | omega) | (simp [AllP, condB]; intros; simp_all; done)
  refine G.cond_false rfl ?_
  refine G.skip ?_
  refine G.seqR tfine rfl trivial ?_
  refine G.openVar 801 806 2 0 (A := A) (n := 2) (sz := 2) (el := elM tb) (cap := c) rfl (fun _ h => h) (fun _ h => h) rfl rfl rfl rfl ?_
  refine G.seqR tfine rfl ?_ ?_
  · simp only [AllP]
    and_intros <;> first | trivial | decide
  refine G.seq (G.seqR tfine rfl trivial ?_)
  refine G.newNil 53 2 (elP []) rfl ?_
  refine G.block (G.loop (fun z : Nat × Nat × List (Int × Int) => St.of [(1, .v (.c (.k (I 30)))), (2, .v (.c (.ptr 2 0 0 0))), (6, .v (.c (accV 53 2 z.1 z.2.1))), (7, .v (.c (.k (I 100)))), (8, .v (.c (.k (I (30 * ((z.1 + 1 : Nat) : Int))))))]
      [(801, .say (sb (.slice A 2 c)) (fun w => RdRow w A 2 2 (elM tb))), (806, .ro 2 2 (elM tb)), (2, .var 47 [.inp 806 A 2 c, .k (I 0)]), (53, accB 58 2 z.1 z.2.1 (elP z.2.2))])
    (fun z => z.1 ≤ 3 ∧ z.1 ≤ z.2.1 ∧ z.2.2.length = z.1) (fun z => 3 - z.1) (0, 0, []) ⟨by decide, Nat.le_refl _, rfl⟩ (St.le_of rfl ⟨⟨_, rfl, Blk.le_refl _⟩, ⟨_, rfl, Blk.le_refl _⟩, ⟨_, rfl, Blk.le_refl _⟩, ⟨_, rfl, Blk.le_refl _⟩, trivial⟩ ⟨rfl, rfl, rfl, rfl, rfl, trivial⟩) ?_)
  rintro ⟨k, cp, ms⟩ ⟨hk, hcp, hms⟩
  simp only at hk hcp hms
  refine G.seq ?_
  refine G.seqR tfine rfl trivial ?_
  refine G.cond (b := decide (30 * ((k + 1 : Nat) : Int) ≤ 100)) rfl (fun h7 => ?_) (fun h7 => ?_)
  rotate_left
  · have h7 := of_decide_eq_false h7
    have : k = 3 := by omega
    subst this
    refine G.exit ?_
    refine G.freezeArr 53 6 rfl rfl (Nat.le_refl _) fun g hg => ?_
    refine G.seq ?_
    refine G.seqR tfine rfl trivial ?_
    refine G.cond_false rfl ?_
    refine G.skip ?_
    refine G.seqR tfine rfl trivial ?_
    exact G.ret ⟨.inl rfl, fun ρ a w' hs => ⟨_, results_run tfine hs rfl, ⟨(some ⟨g, 0, none⟩, cp), rfl⟩, hs.mem.fr.toBelow⟩⟩
  have h7 := of_decide_eq_true h7
  have hlt : k < 3 := by omega
  refine G.skip ?_
  refine G.block ?_
  refine G.seqC tfine rfl trivial ?_
  refine GO.callPlain (v := I (3 * ((k + 1 : Nat) : Int))) rfl rfl rfl rfl (fun args w => Tryz.call43 args w) (fun ρ w hs hok => ?_) ?_
  · rw [← least_eq k hlt]
    exact least_any (30 * ((k + 1 : Nat) : Int)) A c w (hs.ok 801 _ rfl).1
  refine GO.fin tfine rfl trivial ?_
  refine G.seqC tfine rfl trivial ?_
  refine GO.callPlain (v := .tuple #[I (10 * (3 * ((k + 1 : Nat) : Int))), I 0]) rfl rfl rfl rfl (fun args w => Tryz.call44 args w) (fun ρ w hs hok => readR_any A c (3 * ((k + 1 : Nat) : Int)) w (hs.ok 801 _ rfl).1 (by omega)) ?_
  refine GO.fin tfine rfl trivial ?_
  refine G.seqR tfine rfl ?_ ?_
  · simp only [AllP]
    and_intros <;> first | trivial | decide
  rw [lenE k hlt]
  refine G.seq ?_
  refine G.region_lit ?_
  refine GO.moveAny tfine rfl (.inl rfl) rfl rfl rfl ?_
  refine GO.more tfine rfl trivial ?_
  refine GO.appendAccB (n := k) (c := cp) (el := elP ms) [I (3 * ((k + 1 : Nat) : Int)), I (30 * ((k + 1 : Nat) : Int))] [(1, .v (.c (.k (I 30)))), (2, .v (.c (.ptr 2 0 0 0))), (7, .v (.c (.k (I 100)))), (8, .v (.c (.k (I (30 * ((k + 1 : Nat) : Int))))))]
      [(801, .say (sb (.slice A 2 c)) (fun w => RdRow w A 2 2 (elM tb))), (806, .ro 2 2 (elM tb)), (2, .var 47 [.inp 806 A 2 c, .k (I 0)])] apMk rfl rfl rfl rfl rfl rfl rfl rfl rfl rfl (fun u hu => by simp at hu; rcases hu with rfl | rfl <;> rfl)
      (St.le_of rfl ⟨⟨_, rfl, Blk.le_refl _⟩, ⟨_, rfl, Blk.le_refl _⟩, ⟨_, rfl, Blk.le_refl _⟩, trivial⟩ ⟨rfl, rfl, rfl, rfl, trivial⟩) (subM.fr (x := 53) ⟨rfl, (by decide : (801 : Nat) ≠ 53), rfl, (by decide : (806 : Nat) ≠ 53), rfl, (by decide : (2 : Nat) ≠ 53), trivial⟩) (fun k hk => rfl) (by unfold maxLen; omega) (by omega) fun c' hc' => ?_
  refine GO.fin tfine rfl trivial ?_
  refine G.seq ?_
  refine G.seqR tfine rfl trivial ?_
  refine G.cond (b := decide (((k + 1 : Nat) : Int) > 128)) rfl (fun h8 => ?_) (fun h8 => ?_)
  · have h8 := of_decide_eq_true h8
    omega
  refine G.skip ?_
  refine G.reg tfine rfl trivial ?_
  refine ⟨(k + 1, c', ms ++ [(3 * ((k + 1 : Nat) : Int), 30 * ((k + 1 : Nat) : Int))]), ⟨by simp only; omega, by simp only; exact hc', by simp [hms]⟩, (by show 3 - (k + 1) < 3 - k; omega), ?_⟩
  have hsn : ∀ j, j < k + 1 → elP (ms ++ [(3 * ((k + 1 : Nat) : Int), 30 * ((k + 1 : Nat) : Int))]) j = elN (elP ms) k [I (3 * ((k + 1 : Nat) : Int)), I (30 * ((k + 1 : Nat) : Int))] j := fun j hj => by
    have := elP_snoc ms (3 * ((k + 1 : Nat) : Int), 30 * ((k + 1 : Nat) : Int)) j (by omega)
    rw [hms] at this
    exact this.symm
  refine St.le_of rfl ⟨⟨_, rfl, Blk.le_refl _⟩, ⟨_, rfl, Blk.le_refl _⟩, ⟨_, rfl, Blk.le_refl _⟩, ⟨_, rfl, rfl, rfl, Nat.le_refl _, hsn, Nat.le_refl _⟩, trivial⟩ ⟨rfl, rfl, rfl, rfl, ?_, trivial⟩
  show TV.v (.c (.k (I (IntKind.i64.wrap (30 * ((k + 1 : Nat) : Int) + 30))))) = TV.v (.c (.k (I (30 * ((k + 1 + 1 : Nat) : Int)))))
  rw [IntWalk.i64_in _ (by omega), show 30 * ((k + 1 : Nat) : Int) + 30 = 30 * ((k + 1 + 1 : Nat) : Int) by omega]
end Go.Proofs.YtphipfmidfoflaaGreat
/- The symbolic executor, part BJ: a row that was just built becomes a constant. Generic over P. -/
set_option linter.unusedVariables false
set_option linter.unusedSimpArgs false
namespace Go.Sx
open Go.RowKit
/-- The elements of a row that lies in a variable. -/
def elV (vs : List Value) (sz i : Nat) : List Value := (vs.drop (i * sz)).take sz
section
variable {P : Program} {E : Env} {K : Exit → St → Prop} {T : Tab}
theorem Sat.freezeVar {ρ : Val} {t : Nat → TV} {m : Mem} {a : Act} {w : World} (h : Sat E ρ ⟨t, m⟩ a w) {x d n sz c : Nat} {ty : TypeId} {vs : List Value} (ht : t d = .v (.c (.slc x 0 sz n c))) (hm : m x = some (.var ty (vs.map .k))) (hn : n * sz ≤ vs.length) :
    Sat E ρ ⟨up t d (.v (.c (.k (.slice (some ⟨(ρ x).1, 0, none⟩) n c)))), up m x (some (.say (· = (ρ x).1) fun w => RdRow w (some ⟨(ρ x).1, 0, none⟩) n sz (elV vs sz)))⟩ a w := by
  have hk := h.mem.ok x _ hm
  have hsz : ∀ y, (m y).isSome = true → (up m x (some (.say (· = (ρ x).1) fun w => RdRow w (some ⟨(ρ x).1, 0, none⟩) n sz (elV vs sz))) y).isSome = true := fun y hy => isSome_up y hy
  refine h.remem (h.mem.swap h.mem.fr (Nat.le_refl _) hsz fun y b hy => ?_) hsz ?_
  · by_cases e : y = x
    · subst e
      rw [up_same] at hy
      injection hy with hy
      subst hy
      refine .inr (.inl ⟨_, _, rfl, ?_, ?_, ?_, fun z c hz hc ho => ?_⟩)
      · have := (h.mem.rdVar (sz := sz) hm 0 n (by simpa using hn))
        simp only [Nat.zero_mul, Nat.add_zero, Nat.zero_add, hk.1] at this
        exact this
      · rintro k rfl; exact h.mem.lt hm trivial
      · exact (steady_row (cap := c)).mono fun k hk => by obtain ⟨_, a, e, rfl⟩ := hk; cases e; rfl
      · rw [up_other _ _ hz] at hc
        exact h.mem.ne z y c _ hc hm ho trivial hz
    · rw [up_other _ _ e] at hy
      exact .inl ⟨hy, fun _ _ _ => rfl⟩
  · have hd := h.tm d
    rw [show (St.mk t m).t d = _ from ht] at hd
    refine ⟨trivial, hd.2.trans ?_⟩
    simp [AV.conc, AC.conc, hk.1]
theorem GO.freezeVar {ops : Array Oper} {rest : List Oper} {t : Nat → TV} {m : Mem} (x d : Nat) {n sz c : Nat} {ty : TypeId} {vs : List Value} (ht : t d = .v (.c (.slc x 0 sz n c))) (hm : m x = some (.var ty (vs.map .k))) (hn : n * sz ≤ vs.length)
    (k : ∀ g, (E.w0.heap.size ≤ g ∨ (x, g) ∈ E.bor) → GO P E ops K rest ⟨up t d (.v (.c (.k (.slice (some ⟨g, 0, none⟩) n c)))), up m x (some (.say (· = g) fun w => RdRow w (some ⟨g, 0, none⟩) n sz (elV vs sz)))⟩) : GO P E ops K rest ⟨t, m⟩ :=
  GO.sem fun ρ a w hs => ⟨ρ, _, hs.freezeVar ht hm hn, k _ (hs.mem.ownGe hm trivial)⟩
theorem G.freezeVar {c0 : Code} {t : Nat → TV} {m : Mem} (x d : Nat) {n sz c : Nat} {ty : TypeId} {vs : List Value} (ht : t d = .v (.c (.slc x 0 sz n c))) (hm : m x = some (.var ty (vs.map .k))) (hn : n * sz ≤ vs.length)
    (k : ∀ g, (E.w0.heap.size ≤ g ∨ (x, g) ∈ E.bor) → G P E K c0 ⟨up t d (.v (.c (.k (.slice (some ⟨g, 0, none⟩) n c)))), up m x (some (.say (· = g) fun w => RdRow w (some ⟨g, 0, none⟩) n sz (elV vs sz)))⟩) : G P E K c0 ⟨t, m⟩ :=
  G.sem fun ρ a w hs => ⟨ρ, _, hs.freezeVar ht hm hn, k _ (hs.mem.ownGe hm trivial)⟩
/-- An operation under a guard that is open. -/
theorem GO.stepOpen (hT : Tab.fine P T) {ops : Array Oper} {rest : List Oper} {st : St} {o : Oper} {d j : Nat} {want : Bool} {tv : TV} {m' : Nat → Option Blk} {obs : List Prop} (hg : o.guard = some (j, want)) (hb : guardB ops st.t j want = some true) (hdd : o.dst = some d) (hd : dstOk E.N o.dst = true)
    (h : evOp T d (evT st.t) st.m o.op = .ok tv m' obs) (ho : AllP obs) (k : GO P E ops K rest ⟨putT st.t o.dst tv, m'⟩) : GO P E ops K (o :: rest) st := by
  intro ρ a w hs
  have hw := wanted_cond (ops := ops) hs hg hb
  unfold wpL
  rw [hw, if_pos rfl]
  exact .inl (Snd.go hs (dstOk_lt hd) (evOp_sound hT hs.mem (fun _ => rfl) hs.eval rfl h ho) fun ρ' a' w' hs' => k ρ' a' w' hs')
end
end Go.Sx
/- Top: the example that is looked at first. -/
set_option linter.unusedVariables false
set_option linter.unusedSimpArgs false
set_option maxRecDepth 8000
set_option maxHeartbeats 2000000
namespace Go.Proofs.YtphipfmidfoflaaGreat
open Go.Sx Go.RowKit
def CaskAns (w w' : World) (s : ByteArray) (pos : Int) (l : List (Int × Int)) (decl : Int) (e : Ending) : Prop := ∃ v : Option Addr × Nat, e = .returned (.agg #[.string s, I pos, .slice v.1 l.length v.2, I decl]) ∧ Below w.heap.size w w' ∧ RdRow w' v.1 l.length 2 (elP l) ∧ (∀ k, sb (.slice v.1 l.length v.2) k → w.heap.size ≤ k ∧ k < w'.heap.size) ∧ Steady (sb (.slice v.1 l.length v.2)) (fun w => RdRow w v.1 l.length 2 (elP l))
def brS : ByteArray := ⟨#[65, 45, 49]⟩
def brl : List (Int × Int) := [(0, 300), (500, 400), (1000, 300)]
theorem barrel_any (w : World) : Calls Tryz.prog 17 #[] w fun e w' => CaskAns w w' brS 1 brl 387 e := by
  refine enterSay [] [] [] Tryz.func17 rfl 6 Tryz.ntmps17 rfl rfl trivial trivial ?_
  refine G.seqR tfine rfl trivial ?_
  refine G.seq ?_
  refine G.region_lit ?_
  refine GO.firstN tfine 4 rfl trivial ?_
  refine GO.freezeVar 4 4 (vs := [I 0, I 300, I 500, I 400, I 1000, I 300]) rfl rfl (by decide) fun g hg => ?_
  refine GO.fin tfine rfl trivial ?_
  have e0 : ∀ i, i < 3 → elP brl i = elV [I 0, I 300, I 500, I 400, I 1000, I 300] 2 i := fun i hi => by
    match i, hi with
    | 0, _ => rfl
    | 1, _ => rfl
    | 2, _ => rfl
  refine G.ret ⟨.inl rfl, fun ρ a w' hs => ⟨_, results_run tfine hs rfl, (some ⟨g, 0, none⟩, 3), rfl, hs.mem.fr.toBelow, (hs.mem.ok 4 _ rfl).1.congr e0, fun k hk => ?_, steady_row⟩⟩
  obtain ⟨_, a, e, rfl⟩ := hk
  injection e with e
  rw [← e]
  exact ⟨hg.elim id (fun h => by cases h), (hs.mem.ok 4 _ rfl).2.1 g rfl⟩
theorem equal3_any (A B : Option Addr) (c d : Nat) (w : World) (h1 : RdRow w A 3 1 (elI [4, 3, 3])) (h2 : RdRow w B 3 1 (elI [4, 3, 3])) :
    Calls Tryz.prog 22 #[.slice A 3 c, .slice B 3 d] w fun e w' => e = .returned (.bool true) ∧ Below w.heap.size w w' := by
  refine enterPlain tfine Tryz.func22 rfl 26 Tryz.ntmps22 [.c (.inp 1000 A 3 c), .c (.inp 1001 B 3 d)] [⟨1000, A, 1, 3, elI [4, 3, 3]⟩, ⟨1001, B, 1, 3, elI [4, 3, 3]⟩] rfl rfl ⟨h1, h2, trivial⟩ ⟨.inl ⟨rfl, rfl, rfl⟩, .inr ⟨(by decide : (1000 : Nat) ≠ 1001), .inl ⟨rfl, rfl, rfl⟩⟩, trivial⟩ ?_
  refine G.seqR tfine rfl trivial ?_
  refine G.seq ?_
  refine G.seqR tfine rfl trivial ?_
  refine G.cond_false rfl ?_
  refine G.skip ?_
  refine G.seq (G.seqR tfine rfl trivial ?_)
  refine G.block (G.loop (fun k : Nat => St.of [(0, .v (.c (.inp 1000 A 3 c))), (1, .v (.c (.inp 1001 B 3 d))), (12, .v (.c (.k (I 3)))), (13, .v (.c (.k (I k))))] [(1000, .ro 1 3 (elI [4, 3, 3])), (1001, .ro 1 3 (elI [4, 3, 3]))])
    (fun k => k ≤ 3) (fun k => 3 - k) 0 (by decide) (St.le_of rfl ⟨⟨_, rfl, Blk.le_refl _⟩, ⟨_, rfl, Blk.le_refl _⟩, trivial⟩ ⟨rfl, rfl, rfl, rfl, trivial⟩) ?_)
  intro k hk
  refine G.seqR tfine rfl trivial ?_
  refine G.seq (G.cond (b := decide ((k : Int) < 3)) rfl (fun h7 => ?_) (fun h7 => ?_))
  · have h7 := of_decide_eq_true h7
    have hw3 : IntKind.i64.wrap ((k : Int) + 1) = ((k + 1 : Nat) : Int) := IntWalk.i64_in _ (by omega)
    refine G.skip ?_
    refine G.seq (G.block ?_)
    refine G.seqR tfine rfl trivial ?_
    refine G.seqD tfine hmix [0, 0, 3, 7, 0, 0, 48, 112, 255] [] rfl rfl rfl rfl ?_ ?_
    · simp only [AllP]
      and_intros <;> first | trivial | omega
    refine G.cond (b := [4, 3, 3].getD ((k : Nat) : Int).toNat 0 != [4, 3, 3].getD ((k : Nat) : Int).toNat 0) rfl (fun h8 => ?_) (fun h8 => ?_)
    · simp at h8
    refine G.skip ?_
    refine G.reg tfine rfl trivial ?_
    refine ⟨k + 1, by omega, (by show 3 - (k + 1) < 3 - k; omega), St.le_of rfl ⟨⟨_, rfl, Blk.le_refl _⟩, ⟨_, rfl, Blk.le_refl _⟩, trivial⟩ ⟨rfl, rfl, rfl, ?_, trivial⟩⟩
    show TV.v (.c (.k (I (IntKind.i64.wrap ((k : Int) + 1))))) = _
    rw [hw3]
  refine G.exit ?_
  refine G.seqR tfine rfl trivial ?_
  exact G.ret (endK.ret rfl rfl)
theorem brFault : faultM brS 1 brl 387 [0, 400, 800] 2 = 0 := by decide +kernel
theorem brSlices : (slicesM brl 2).2 = 0 := by decide +kernel
theorem brBet : ∀ k, k + 1 < 3 → (bE brS 1 brl 387 (slicesM brl 2).1 [0, 400, 800] k).2.2 = 0 := by
  intro k hk
  have : k = 0 ∨ k = 1 := by omega
  rcases this with rfl | rfl <;> decide +kernel
theorem brVol : (capacity_Volume brS 1 brl 387).1 = 387 ∧ (capacity_Volume brS 1 brl 387).2.2 = 0 := by decide +kernel
theorem brRep : gauge_Report tb 0 0 10 200 4000 0 = (0, 10, 200, 4000, 100, 100, 400000, 400000, 0) := by kernel_rfl
theorem awake_any (w : World) : Calls Tryz.prog 5 #[] w fun e w' => e = .returned (.bool true) ∧ Below w.heap.size w w' := by
  refine enterSay [] [] [] Tryz.func5 rfl 89 Tryz.ntmps5 rfl rfl trivial trivial ?_
  refine G.seqR tfine rfl trivial ?_
  refine G.seqC tfine rfl trivial ?_
  refine GO.callSay 812 (fun v : Option Addr × Nat => .agg #[.string brS, I 1, .slice v.1 brl.length v.2, I 387]) (fun v => sb (.slice v.1 brl.length v.2)) (fun v w => RdRow w v.1 brl.length 2 (elP brl)) rfl rfl rfl rfl rfl (fun args w => Tryz.call17 args w) (fun ρ w1 hs hok => barrel_any w1) fun v => ?_
  refine GO.firstN tfine 1 rfl trivial ?_
  refine GO.freezeVar 13 13 (vs := [I 0, I 400, I 800]) rfl rfl (by decide) fun g hg => ?_
  refine GO.callSay 813 (fun u : (Option Addr × Nat) × Int => .tuple #[.agg #[.slice u.1.1 3 u.1.2, I u.2], I 0]) (fun _ _ => False) (fun _ _ => True) rfl rfl rfl rfl rfl (fun args w => Tryz.call16 args w) (fun ρ w1 hs hok => ?_) fun u => ?_
  · have e0 : ∀ i, i < 3 → elI [0, 400, 800] i = elV [I 0, I 400, I 800] 1 i := fun i hi => by
      match i, hi with
      | 0, _ => rfl
      | 1, _ => rfl
      | 2, _ => rfl
    have := dipBuild_any brS v.1 v.2 brl 387 (some ⟨g, 0, none⟩) 3 [0, 400, 800] 2 w1 (hs.ok 812 _ rfl).1 ((hs.ok 13 _ rfl).1.congr e0) (by decide) (by decide) (by decide) (by decide) brFault brSlices brBet
    refine this.mono ?_
    rintro e w' ⟨u, wd, rfl, hb⟩
    exact ⟨(u, wd), rfl, hb, trivial, fun k hk => hk.elim, fun _ _ _ _ h => h⟩
  refine GO.fin tfine rfl trivial ?_
  refine G.seqC tfine rfl trivial ?_
  refine GO.callSay 822 (fun v : Option Addr × Nat => .agg #[.string brS, I 1, .slice v.1 brl.length v.2, I 387]) (fun v => sb (.slice v.1 brl.length v.2)) (fun v w => RdRow w v.1 brl.length 2 (elP brl)) rfl rfl rfl rfl rfl (fun args w => Tryz.call17 args w) (fun ρ w1 hs hok => barrel_any w1) fun v2 => ?_
  refine GO.more tfine rfl trivial ?_
  obtain ⟨vb, hvb⟩ : ∃ vb, vb = (capacity_Volume brS 1 brl 387).2.1 := ⟨_, rfl⟩
  refine GO.callPlain (v := .tuple #[.agg #[I 387, I vb], I 0]) rfl rfl rfl rfl (fun args w => Tryz.call18 args w) (fun ρ w1 hs hok => ?_) ?_
  · have := capacity_Volume_any brS 1 v2.1 v2.2 brl 387 w1 (hs.ok 822 _ rfl).1 (by decide)
    rw [brVol.1, brVol.2, ← hvb] at this
    exact this
  refine GO.fin tfine rfl trivial ?_
  refine G.seqC tfine rfl trivial ?_
  refine GO.callSay 814 (fun u : Option Addr × Nat => .tuple #[.slice u.1 3 u.2, I 0]) (fun u => sb (.slice u.1 3 u.2)) (fun u w => RdRow w u.1 3 1 (elI [4, 3, 3])) rfl rfl rfl rfl rfl (fun args w => Tryz.call19 args w) (fun ρ w1 hs hok => ?_) fun u2 => ?_
  · have h0 := hs.rdVar (x := 23) (sz := 1) (ty := 3) (vs := [I 1, I 1, I 1]) rfl 0 3 (by decide)
    exact divide_any (some ⟨(ρ 23).1, (ρ 23).2 + 0 * 1, none⟩) 3 w1 (h0.congr fun i hi => by
      match i, hi with
      | 0, _ => rfl
      | 1, _ => rfl
      | 2, _ => rfl)
  refine GO.fin tfine rfl trivial ?_
  have e1 : ∀ i, i < 2 → elM tb i = elV [I 0, I 0, I 10, I 100] 2 i := fun i hi => by
    match i, hi with
    | 0, _ => rfl
    | 1, _ => rfl
  refine G.seq ?_
  refine G.region_lit ?_
  refine GO.firstN tfine 3 rfl trivial ?_
  refine GO.freezeVar 30 30 (vs := [I 0, I 0, I 10, I 100]) rfl rfl (by decide) fun g2 hg2 => ?_
  refine GO.more tfine rfl trivial ?_
  refine GO.callSay 815 (fun u : Option Addr × Nat => .tuple #[.slice u.1 3 u.2, I 0]) (fun _ _ => False) (fun _ _ => True) rfl rfl rfl rfl rfl (fun args w => Tryz.call20 args w) (fun ρ w1 hs hok => ?_) fun u3 => ?_
  · have := make_any (some ⟨g2, 0, none⟩) 2 w1 ((hs.ok 30 _ rfl).1.congr e1)
    refine this.mono ?_
    rintro e w' ⟨⟨u, rfl⟩, hb⟩
    exact ⟨u, rfl, hb, trivial, fun k hk => hk.elim, fun _ _ _ _ h => h⟩
  refine GO.fin tfine rfl trivial ?_
  refine G.seq ?_
  refine G.region_lit ?_
  refine GO.firstN tfine 3 rfl trivial ?_
  refine GO.freezeVar 38 38 (vs := [I 0, I 0, I 10, I 100]) rfl rfl (by decide) fun g3 hg3 => ?_
  refine GO.more tfine rfl trivial ?_
  refine GO.callPlain (v := .tuple #[.agg #[I 0, I 10, I 200, I 4000, I 100, I 100, I 400000, I 400000], I 0]) rfl rfl rfl rfl (fun args w => Tryz.call21 args w) (fun ρ w1 hs hok => ?_) ?_
  · have := gauge_Report_any (some ⟨g3, 0, none⟩) 2 tb 0 0 10 200 4000 0 w1 ((hs.ok 38 _ rfl).1.congr e1) (by decide)
    rw [brRep] at this
    exact this
  refine GO.fin tfine rfl trivial ?_
  refine G.seqC tfine rfl ?_ ?_
  · simp [AllP, condB]
  refine GO.stepOpen tfine rfl rfl rfl rfl rfl trivial ?_
  refine GO.callGuard (.bool true) rfl rfl rfl (by first | exact trivial | exact ⟨id, trivial⟩ | exact ⟨id, id, trivial⟩ | exact ⟨id, id, id, trivial⟩) rfl rfl (fun args w => Tryz.call22 args w) rfl (fun _ m' hle ρ w1 hs hok => ?_) ?_
  · have h0 := hs.rdVar (x := 75) (sz := 1) (ty := 3) (vs := [I 4, I 3, I 3]) (LeM.at hle rfl) 0 3 (by decide)
    exact equal3_any u2.1 (some ⟨(ρ 75).1, (ρ 75).2 + 0 * 1, none⟩) u2.2 3 w1 (hs.ok 814 _ (LeM.at hle rfl)).1 (h0.congr fun i hi => by
      match i, hi with
      | 0, _ => rfl
      | 1, _ => rfl
      | 2, _ => rfl)
  refine GO.fin tfine rfl ?_ ?_
  · simp [AllP, condB]
  exact G.ret (retK.plain tfine rfl rfl)
end Go.Proofs.YtphipfmidfoflaaGreat
/- Top: cylinders, the walk. -/
set_option linter.unusedVariables false
set_option linter.unusedSimpArgs false
set_option maxRecDepth 8000
set_option maxHeartbeats 2000000
namespace Go.Proofs.YtphipfmidfoflaaGreat
open Go.Sx Go.RowKit
theorem apPt : ApT Tryz.prog 22 39 2 16 (.agg #[I 0, I 0]) := ⟨by kernel_rfl, by kernel_rfl, rfl, by decide⟩
theorem clonePt_any (A : Option Addr) (c : Nat) (l : List (Int × Int)) (w : World) (h : RdRow w A l.length 2 (elP l)) (hn : l.length ≤ 100000) : Calls Tryz.prog 11 #[.slice A l.length c] w fun e w' => SumAns w w' l e := by
  have hA : A = none → l.length = 0 := fun e => by
    rcases Nat.eq_zero_or_pos l.length with h0 | h0
    · exact h0
    · obtain ⟨b, o, e', _⟩ := h h0
      rw [e] at e'; cases e'
  refine enterSay [] [.c (.k (.slice A l.length c))] [(801, .say (sb (.slice A l.length c)) (fun w => RdRow w A l.length 2 (elP l)))] Tryz.func11 rfl 8 Tryz.ntmps11 rfl rfl ⟨trivial, trivial⟩ ⟨⟨h, sb_lt h, steady_row⟩, trivial, trivial⟩ ?_
  refine G.openSay 801 806 0 rfl (fun _ h => h) (fun _ h => h) rfl rfl rfl ?_
  refine G.seqR tfine rfl trivial ?_
  refine G.seq (G.seqR tfine rfl trivial ?_)
  refine G.cond (b := A.isNone) rfl (fun h1 => ?_) (fun h1 => ?_)
  · refine G.seqR tfine rfl trivial ?_
    have h0 : l = [] := List.length_eq_zero_iff.1 (hA (by cases A <;> simp at h1 ⊢))
    subst h0
    exact G.ret ⟨.inl rfl, fun ρ a w' hs => ⟨_, results_run tfine hs rfl, (none, 0), rfl, hs.mem.fr.toBelow, RdRow.nil _ _ _ _, fun k hk => absurd hk.1 (Nat.lt_irrefl 0), steady_row⟩⟩
  refine G.skip ?_
  refine G.seqC tfine rfl trivial ?_
  refine GO.emptySlice tfine rfl rfl rfl rfl rfl rfl rfl fun A0 => ?_
  refine GO.more tfine rfl trivial ?_
  refine GO.appendNew (elP l) apPt rfl rfl rfl rfl rfl rfl rfl rfl (RowOf.ro rfl) (fun k hk => rfl) (fun i hi u hu => by simp [elP] at hu; rcases hu with rfl | rfl <;> rfl) (by unfold maxLen; omega) (by omega) (fun h0 => ?_) fun h0 c' hc' => ?_
  · refine GO.fin tfine rfl trivial ?_
    have h0 : l = [] := List.length_eq_zero_iff.1 h0
    subst h0
    exact G.ret ⟨.inl rfl, fun ρ a w' hs => ⟨_, results_run tfine hs rfl, (A0, 0), rfl, hs.mem.fr.toBelow, RdRow.nil _ _ _ _, fun k hk => absurd hk.1 (Nat.lt_irrefl 0), steady_row⟩⟩
  · refine GO.fin tfine rfl trivial ?_
    refine G.freezeArr 7 2 rfl rfl (Nat.le_refl _) fun g hg => ?_
    refine G.ret ⟨.inl rfl, fun ρ a w' hs => ⟨_, results_run tfine hs rfl, (some ⟨g, 0, none⟩, c'), rfl, hs.mem.fr.toBelow, (hs.mem.ok 7 _ rfl).1, fun k hk => ?_, steady_row⟩⟩
    obtain ⟨_, a, e, rfl⟩ := hk
    injection e with e
    rw [← e]
    exact ⟨hg.elim id (fun h => by cases h), (hs.mem.ok 7 _ rfl).2.1 g rfl⟩
def meetB (a b : Int × Int) : Bool := decide (a.1 ≤ b.2) && decide (b.1 ≤ a.2)
theorem meet_any (a b : Int × Int) (w : World) : Calls Tryz.prog 15 #[.agg #[I a.1, I a.2], .agg #[I b.1, I b.2]] w fun e w' => e = .returned (.bool (meetB a b)) ∧ Below w.heap.size w w' := by
  refine enterPlain tfine Tryz.func15 rfl 17 Tryz.ntmps15 [.agg [.k (I a.1), .k (I a.2)], .agg [.k (I b.1), .k (I b.2)]] [] rfl rfl trivial ⟨⟨trivial, trivial, trivial⟩, ⟨trivial, trivial, trivial⟩, trivial⟩ ?_
  refine G.seqR tfine rfl trivial ?_
  refine G.seqR tfine rfl ?_ ?_
  · first | trivial | (simp [AllP, condB]; done) | (simp only [AllP]; and_intros <;> first | trivial | decide | omega) | (simp [AllP, condB]; intros; and_intros <;> first | assumption | omega) | (simp [AllP, condB]; intros; simp_all; done)
  exact G.ret (endK.ret rfl rfl)
def cyP (r h : Int) : List (Int × Int) := [(0, r), (h, r)]
def cS : ByteArray := ⟨#[99]⟩
def two3 (x : Int × Int × Int) : Int × Int := (x.1, x.2.1)
def cylB (r h : Int) (ly st : Int × Int × Int) : Bool := ((((((ly.2.2 == 0 && st.2.2 == 0) && (segment_Whole r).2.2 == 0) && meetB (two3 ly) (two3 st)) && meetB (two3 ly) (two3 (capacity_Space (cyP r h)))) && (st.1 == (capacity_Space (cyP r h)).1 && st.2.1 == (capacity_Space (cyP r h)).2.1)) && meetB (two3 (capacity_Space (cyP r h))) (IntKind.i64.wrap ((segment_Whole r).1 * h), IntKind.i64.wrap ((segment_Whole r).2.1 * h)))
def topCyl (r h m n : Int) : Bool := if (((decide (m < 1) || decide (m > 8)) || decide (n < 1)) || decide (n > 32)) = true then true else if ((capacity_Space (cyP r h)).2.2 != 0) = true then ((capacity_Space (cyP r h)).1 == 0 && (capacity_Space (cyP r h)).2.1 == 0) else cylB r h (cutM cS 1 (cyP r h) 0 (IntKind.i64.wrap (2 * r)) m n) (stWet cS 2 (cyP r h) 0 h n)
theorem cyP_len {r h : Int} : (cyP r h).length ≤ 100000 := by show 2 ≤ 100000; decide
theorem cyP_len9 {r h : Int} : (cyP r h).length ≤ 90000 := by show 2 ≤ 90000; decide
theorem topCyl_any (r h m n : Int) (w : World) : Calls Tryz.prog 4 #[I r, I h, I m, I n] w fun e w' => e = .returned (.bool (topCyl r h m n)) ∧ Below w.heap.size w w' := by
  refine enterSay [] [.c (.k (I r)), .c (.k (I h)), .c (.k (I m)), .c (.k (I n))] [] Tryz.func4 rfl 118 Tryz.ntmps4 rfl rfl ⟨trivial, trivial, trivial, trivial, trivial⟩ trivial ?_
  refine G.seqR tfine rfl trivial ?_
  refine G.seq ?_
  refine G.seqC tfine rfl trivial ?_
  refine GO.callPlain (v := .bool true) rfl rfl rfl rfl (fun args w => Tryz.call5 args w) (fun ρ w hs hok => awake_any w) ?_
  refine GO.fin tfine rfl trivial ?_
  refine G.cond_false rfl ?_
  refine G.skip ?_
  refine G.seq ?_
  refine G.seqR tfine rfl ?_ ?_
  · first | trivial | (simp [AllP, condB]; done) | (simp only [AllP]; and_intros <;> first | trivial | decide | omega) | (simp [AllP, condB]; intros; and_intros <;> first | assumption | omega) | (simp [AllP, condB]; intros; simp_all; done)
  refine G.cond (b := (((decide (m < 1) || decide (m > 8)) || decide (n < 1)) || decide (n > 32))) rfl (fun h1 => ?_) (fun h1 => ?_)
  · refine G.seqR tfine rfl trivial ?_
    refine G.ret (retK.plain tfine rfl ?_)
    rw [topCyl, if_pos h1]
  refine G.skip ?_
  refine G.seqR tfine rfl trivial ?_
  refine G.freezeVar 40 9 (vs := [I 0, I r, I h, I r]) rfl rfl (Nat.le_refl 4) fun g hg => ?_
  have e1 : ∀ i, i < (cyP r h).length → elP (cyP r h) i = elV [I 0, I r, I h, I r] 2 i := fun i hi => by
    match i, hi with
    | 0, _ => rfl
    | 1, _ => rfl
  refine G.seqC tfine rfl trivial ?_
  refine GO.callSay 820 (fun u : Option Addr × Nat => .slice u.1 (cyP r h).length u.2) (fun u => sb (.slice u.1 (cyP r h).length u.2)) (fun u w => RdRow w u.1 (cyP r h).length 2 (elP (cyP r h))) rfl rfl rfl rfl rfl (fun args w => Tryz.call11 args w) (fun ρ w1 hs hok => clonePt_any (some ⟨g, 0, none⟩) 2 (cyP r h) w1 ((hs.ok 40 _ rfl).1.congr e1) cyP_len) fun u => ?_
  refine GO.more tfine rfl trivial ?_
  obtain ⟨fu, hfu⟩ : ∃ fu, fu = capacity_Space (cyP r h) := ⟨_, rfl⟩
  refine GO.callPlain (v := .tuple #[.agg #[I fu.1, I fu.2.1], I fu.2.2]) rfl rfl rfl rfl (fun args w => Tryz.call10 args w) (fun ρ w1 hs hok => by rw [hfu]; exact capacity_Space_any u.1 u.2 (cyP r h) w1 (hs.ok 820 _ rfl).1 cyP_len) ?_
  refine GO.fin tfine rfl trivial ?_
  refine G.seq ?_
  refine G.seqR tfine rfl trivial ?_
  refine G.cond (b := fu.2.2 != 0) rfl (fun h2 => ?_) (fun h2 => ?_)
  · refine G.seqC tfine rfl trivial ?_
    refine GO.structEq false [I fu.1, I fu.2.1] [I 0, I 0] (fu.1 == 0 && fu.2.1 == 0) rfl cmp_api_Bounds rfl rfl rfl rfl rfl (by kernel_rfl) ?_
    refine GO.fin tfine rfl trivial ?_
    refine G.ret (retK.plain tfine rfl ?_)
    rw [topCyl, if_neg (fne h1), ← hfu, if_pos h2]
  refine G.skip ?_
  refine G.seqC tfine rfl trivial ?_
  refine GO.callSay 821 (fun u : Option Addr × Nat => .slice u.1 (cyP r h).length u.2) (fun u => sb (.slice u.1 (cyP r h).length u.2)) (fun u w => RdRow w u.1 (cyP r h).length 2 (elP (cyP r h))) rfl rfl rfl rfl rfl (fun args w => Tryz.call11 args w) (fun ρ w1 hs hok => clonePt_any (some ⟨g, 0, none⟩) 2 (cyP r h) w1 ((hs.ok 40 _ rfl).1.congr e1) cyP_len) fun u2 => ?_
  refine GO.more tfine rfl trivial ?_
  obtain ⟨ly, hly⟩ : ∃ ly, ly = cutM cS 1 (cyP r h) 0 (IntKind.i64.wrap (2 * r)) m n := ⟨_, rfl⟩
  refine GO.callPlain (v := .tuple #[.agg #[I ly.1, I ly.2.1], I ly.2.2]) rfl rfl rfl rfl (fun args w => Tryz.call12 args w) (fun ρ w1 hs hok => by rw [hly]; exact lying_Wet_any cS 1 u2.1 u2.2 (cyP r h) 0 (IntKind.i64.wrap (2 * r)) m n w1 (hs.ok 821 _ rfl).1 cyP_len) ?_
  refine GO.fin tfine rfl trivial ?_
  refine G.seqC tfine rfl trivial ?_
  refine GO.callSay 822 (fun u : Option Addr × Nat => .slice u.1 (cyP r h).length u.2) (fun u => sb (.slice u.1 (cyP r h).length u.2)) (fun u w => RdRow w u.1 (cyP r h).length 2 (elP (cyP r h))) rfl rfl rfl rfl rfl (fun args w => Tryz.call11 args w) (fun ρ w1 hs hok => clonePt_any (some ⟨g, 0, none⟩) 2 (cyP r h) w1 ((hs.ok 40 _ rfl).1.congr e1) cyP_len) fun u3 => ?_
  refine GO.more tfine rfl trivial ?_
  obtain ⟨st, hst⟩ : ∃ st, st = stWet cS 2 (cyP r h) 0 h n := ⟨_, rfl⟩
  refine GO.callPlain (v := .tuple #[.agg #[I st.1, I st.2.1], I st.2.2]) rfl rfl rfl rfl (fun args w => Tryz.call13 args w) (fun ρ w1 hs hok => by rw [hst]; exact stWet_any cS 2 u3.1 u3.2 (cyP r h) 0 h n w1 (hs.ok 822 _ rfl).1 cyP_len9) ?_
  refine GO.fin tfine rfl trivial ?_
  refine G.seqC tfine rfl trivial ?_
  obtain ⟨wh, hwh⟩ : ∃ wh, wh = segment_Whole r := ⟨_, rfl⟩
  refine GO.callPlain (v := .tuple #[.agg #[I wh.1, I wh.2.1], I wh.2.2]) rfl rfl rfl rfl (fun args w => Tryz.call14 args w) (fun ρ w1 hs hok => by rw [hwh]; exact segment_Whole_any r w1) ?_
  refine GO.fin tfine rfl trivial ?_
  refine G.seqR tfine rfl trivial ?_
  refine G.seqC tfine rfl ?_ ?_
  · simp [AllP, condB]
  refine GO.callGuard (.bool (meetB (two3 ly) (two3 st))) rfl rfl rfl (by first | exact trivial | exact ⟨id, trivial⟩ | exact ⟨id, id, trivial⟩ | exact ⟨id, id, id, trivial⟩) rfl rfl (fun args w => Tryz.call15 args w) rfl (fun _ m' hle ρ w1 hs hok => meet_any (two3 ly) (two3 st) w1) ?_
  refine GO.more tfine rfl ?_ ?_
  · simp [AllP, condB]
  refine GO.callGuard (.bool (meetB (two3 ly) (two3 fu))) rfl rfl rfl (by first | exact trivial | exact ⟨id, trivial⟩ | exact ⟨id, id, trivial⟩ | exact ⟨id, id, id, trivial⟩) rfl rfl (fun args w => Tryz.call15 args w) rfl (fun _ m' hle ρ w1 hs hok => meet_any (two3 ly) (two3 fu) w1) ?_
  refine GO.more tfine rfl ?_ ?_
  · simp [AllP, condB]
  refine GO.structEqG false [I st.1, I st.2.1] [I fu.1, I fu.2.1] (st.1 == fu.1 && st.2.1 == fu.2.1) rfl cmp_api_Bounds rfl rfl rfl (by first | exact trivial | exact ⟨id, trivial⟩ | exact ⟨id, id, trivial⟩) rfl rfl rfl (by kernel_rfl) ?_
  refine GO.more tfine rfl ?_ ?_
  · simp [AllP, condB]
  refine GO.callGuard (.bool (meetB (two3 fu) (IntKind.i64.wrap (wh.1 * h), IntKind.i64.wrap (wh.2.1 * h)))) rfl rfl rfl (by first | exact trivial | exact ⟨id, trivial⟩ | exact ⟨id, id, trivial⟩ | exact ⟨id, id, id, trivial⟩) rfl rfl (fun args w => Tryz.call15 args w) rfl (fun _ m' hle ρ w1 hs hok => meet_any (two3 fu) (IntKind.i64.wrap (wh.1 * h), IntKind.i64.wrap (wh.2.1 * h)) w1) ?_
  refine GO.fin tfine rfl ?_ ?_
  · simp [AllP, condB]
  refine G.ret (retK.plain tfine rfl ?_)
  rw [topCyl, if_neg (fne h1), ← hfu, if_neg (fne h2), ← hly, ← hst, cylB, ← hfu, ← hwh]
end Go.Proofs.YtphipfmidfoflaaGreat
/- Top: the law of cylinders. -/
set_option linter.unusedVariables false
set_option linter.unusedSimpArgs false
set_option maxRecDepth 8000
set_option maxHeartbeats 2000000
namespace Go.Proofs.YtphipfmidfoflaaGreat
open Go.Sx Go.RowKit
open Go.Cy (sumS)
theorem sumS_const {h g : Nat → Int} {c : Int} : ∀ k, (∀ i, i < k → g i = c) → sumS h g k = (h k - h 0) * c
  | 0, _ => by simp [sumS]
  | k + 1, hg => by
    rw [sumS, sumS_const k (fun i hi => hg i (by omega)), hg k (by omega), ← Int.add_mul]
    congr 1
    omega
/-! ### Places -/
theorem pushX_grid {o : List Int} {a b x : Int} (h : Grid o a b) (hx : b ≤ x) : Grid (pushX o x) a x ∧ ∀ y, y ∈ o → y ∈ pushX o x := by
  have hl : lastI o = b := h.lst
  unfold pushX
  split
  · rename_i h1
    have hlen := h.len
    have e0 : (o ++ [x]).getD 0 0 = o.getD 0 0 := by
      rw [List.getD_eq_getElem?_getD, List.getD_eq_getElem?_getD, List.getElem?_append_left (by omega)]
    have ei : ∀ i, i < o.length → (o ++ [x]).getD i 0 = o.getD i 0 := fun i hi => by
      rw [List.getD_eq_getElem?_getD, List.getD_eq_getElem?_getD, List.getElem?_append_left hi]
    have ex : (o ++ [x]).getD o.length 0 = x := by
      rw [List.getD_eq_getElem?_getD, List.getElem?_append_right (Nat.le_refl _)]
      simp
    refine ⟨⟨by simp, by rw [e0, h.fst], ?_, fun i j hij hj => ?_⟩, fun y hy => List.mem_append_left _ hy⟩
    · rw [List.length_append, show o.length + [x].length - 1 = o.length by simp]
      exact ex
    · rw [List.length_append, List.length_singleton] at hj
      by_cases e : j = o.length
      · subst e
        rw [ex, ei i hij]
        have := (h.range hij).2
        omega
      · rw [ei i (by omega), ei j (by omega)]
        exact h.inc i j hij (by omega)
  · rename_i h1
    have : x = b := by omega
    rw [this]
    exact ⟨h, fun y hy => hy⟩
theorem plX_eq {q H m : Int} {i : Nat} (h0 : 0 ≤ q) (h1 : q ≤ 100000) (h2 : 0 ≤ H) (h3 : H ≤ 100000) (hm : 1 ≤ m) (hm2 : m ≤ 64) (hi : (i : Int) ≤ m) : plX q H m i = q + (i : Int) * H / m := by
  obtain ⟨a, b, c⟩ := ih_bound (i := i) h2 (by omega) hm hi
  have d : (i : Int) * H ≤ 64 * 100000 := Int.mul_le_mul (by omega) h3 h2 (by omega)
  unfold plX
  rw [w64 (x := (i : Int) * H) (by omega) (by omega), tdiv_ediv a, w64 (x := (i : Int) * H / m) (by omega) (by omega), w64 (by omega) (by omega)]
theorem innerS_grid {q H m a : Int} {o : List Int} (h0 : 0 ≤ q) (h1 : q ≤ 100000) (h2 : 0 ≤ H) (h3 : H ≤ 100000) (hm : 1 ≤ m) (hm2 : m ≤ 64) (ho : Grid o a q) : ∀ i : Nat, (i : Int) ≤ m → Grid (innerS q H m o i) a (q + (i : Int) * H / m) ∧ ∀ y, y ∈ o → y ∈ innerS q H m o i
  | 0, _ => by
    refine ⟨?_, fun y hy => hy⟩
    simp only [innerS, Int.natCast_zero, Int.zero_mul, Int.zero_ediv, Int.add_zero]
    exact ho
  | i + 1, hi => by
    obtain ⟨g1, g2⟩ := innerS_grid h0 h1 h2 h3 hm hm2 ho i (by omega)
    rw [innerS, plX_eq h0 h1 h2 h3 hm hm2 hi]
    have := ih_mono (dip := H) (n := m) (i := i) (j := i + 1) h2 hm (by omega)
    obtain ⟨g3, g4⟩ := pushX_grid (x := q + ((i + 1 : Nat) : Int) * H / m) g1 (by omega)
    exact ⟨g3, fun y hy => g4 y (g2 y hy)⟩
theorem outerS_grid {l : List (Int × Int)} {m : Int} (ok : ProfOK l) (hm : 1 ≤ m) (hm2 : m ≤ 64) : ∀ k, k < l.length → Grid (outerS l m k) 0 (pt l k).1 ∧ ∀ j, j ≤ k → (pt l j).1 ∈ outerS l m k
  | 0, hk => by
    rw [ok.zero]
    refine ⟨⟨Nat.le_refl 1, rfl, rfl, fun i j hij hj => ?_⟩, fun j hj => ?_⟩
    · have : j < 1 := hj
      omega
    · rw [show j = 0 by omega, ok.zero]
      exact List.mem_singleton.2 rfl
  | k + 1, hk => by
    obtain ⟨g1, g2⟩ := outerS_grid ok hm hm2 k (by omega)
    have a1 := ok.x0 k (by omega)
    have a2 := ok.x0 (k + 1) hk
    have a3 := ok.up k hk
    have eH : IntKind.i64.wrap ((pt l (k + 1)).1 - (pt l k).1) = (pt l (k + 1)).1 - (pt l k).1 := w64 (by omega) (by omega)
    obtain ⟨g3, g4⟩ := innerS_grid (q := (pt l k).1) (H := (pt l (k + 1)).1 - (pt l k).1) (m := m) a1.1 a1.2 (by omega) (by omega) hm hm2 g1 m.toNat (by omega)
    rw [show ((m.toNat : Nat) : Int) = m by omega, Int.mul_ediv_cancel_left _ (show m ≠ 0 by omega), show (pt l k).1 + ((pt l (k + 1)).1 - (pt l k).1) = (pt l (k + 1)).1 by omega] at g3
    rw [outerS, eH]
    refine ⟨g3, fun j hj => ?_⟩
    by_cases e : j = k + 1
    · subst e
      exact mem_at.2 ⟨_, by have := g3.len; omega, g3.lst⟩
    · exact g4 _ (g2 j (by omega))
/-! ### Cylinders -/
theorem cy_ok {r h : Int} (hE : profE (cyP r h) = 0) : (1 ≤ r ∧ r ≤ 100000) ∧ (1 ≤ h ∧ h ≤ 100000) := by
  have ok := profE_ok hE
  have a := ok.r0 0 (show 0 < 2 by decide)
  have b := ok.x0 1 (show 1 < 2 by decide)
  have c := ok.up 0 (show 0 + 1 < 2 by decide)
  have a : 1 ≤ r ∧ r ≤ 100000 := a
  have b : 0 ≤ h ∧ h ≤ 100000 := b
  have c : (0 : Int) < h := c
  omega
theorem cy_at {r h x : Int} (hE : profE (cyP r h) = 0) (h0 : 0 ≤ x) (h1 : x ≤ h) : profile_At (cyP r h) x = (r, r, 0) := by
  obtain ⟨hr, hh⟩ := cy_ok hE
  have e1 : lenP (cyP r h) = h := rfl
  have e2 : atM (cyP r h) x = atV (cyP r h) x 0 := by
    unfold atM
    rw [find_range (i := 0) (show 0 < (cyP r h).length - 1 from Nat.zero_lt_one) (by show (!decide (x > h)) = true; simp; omega) (fun j hj => absurd hj (Nat.not_lt_zero j))]
  have e3 : atV (cyP r h) x 0 = (r, r) := by
    show (IntKind.i64.wrap ((IntKind.i64.wrap (IntKind.i64.wrap (r * IntKind.i64.wrap (h - x)) + IntKind.i64.wrap (r * IntKind.i64.wrap (x - 0)))).tdiv (IntKind.i64.wrap (h - 0))),
      IntKind.i64.wrap ((IntKind.i64.wrap (IntKind.i64.wrap (IntKind.i64.wrap (IntKind.i64.wrap (r * IntKind.i64.wrap (h - x)) + IntKind.i64.wrap (r * IntKind.i64.wrap (x - 0))) + IntKind.i64.wrap (h - 0)) - 1)).tdiv (IntKind.i64.wrap (h - 0)))) = (r, r)
    have m1 := mulB (a := r) (b := h - x) (m := 100000) (n := 100000) (by omega) (by omega) (by omega) (by omega)
    have m2 := mulB (a := r) (b := x) (m := 100000) (n := 100000) (by omega) (by omega) (by omega) (by omega)
    have m3 := mulB (a := r) (b := h) (m := 100000) (n := 100000) (by omega) (by omega) (by omega) (by omega)
    have m4 : r * (h - x) + r * x = r * h := by rw [← Int.mul_add]; congr 1; omega
    rw [Int.sub_zero, Int.sub_zero, w64 (x := h - x) (by omega) (by omega), w64 (x := x) (by omega) (by omega), w64 (x := h) (by omega) (by omega), w64 (x := r * (h - x)) (by omega) (by omega), w64 (x := r * x) (by omega) (by omega), m4, w64 (x := r * h) (by omega) (by omega), w64 (x := r * h + h) (by omega) (by omega), w64 (x := r * h + h - 1) (by omega) (by omega), tdiv_ediv (by omega), tdiv_ediv (by omega), Int.mul_ediv_cancel _ (show h ≠ 0 by omega), w64 (x := r) (by omega) (by omega)]
    have m5 : (r * h + h - 1) / h = r := by
      rw [show r * h + h - 1 = (h - 1) + r * h by omega, Int.add_mul_ediv_right _ _ (show h ≠ 0 by omega), Int.ediv_eq_zero_of_lt (by omega) (by omega)]
      omega
    rw [m5, w64 (x := r) (by omega) (by omega)]
  unfold profile_At
  rw [hE, if_neg (by decide), e1, if_neg (by simp; omega), e2, e3]
theorem cy_sl {r h : Int} {p : List Int} {i : Nat} (hE : profE (cyP r h) = 0) (hp : Grid p 0 h) (hi : i + 1 < p.length) : slB (cyP r h) p i = r ∧ slC (cyP r h) p i = r := by
  have a := hp.range (i := i) (by omega)
  have b := hp.range hi
  unfold slB slC
  rw [cy_at hE a.1 a.2, cy_at hE b.1 b.2]
  simp
theorem cS_ok : cask_named cS = true := by decide +kernel
theorem cy_cask {r h : Int} (hE : profE (cyP r h) = 0) : cask_Check cS 1 (cyP r h) 0 = 0 ∧ cask_Check cS 2 (cyP r h) 0 = 0 := by
  unfold cask_Check
  rw [cS_ok, hE]
  exact ⟨rfl, rfl⟩
theorem cy_stand {r h n : Int} (hE : profE (cyP r h) = 0) (hn : 1 ≤ n) (hn2 : n ≤ 64) : stWet cS 2 (cyP r h) 0 h n = (spL (3 * (h * (r * r))), spH (3 * (h * (r * r))), 0) := by
  obtain ⟨hr, hh⟩ := cy_ok hE
  have ok := profE_ok hE
  have e1 : lenP (cyP r h) = h := rfl
  have hst : standing_stands cS 2 (cyP r h) 0 = 0 := by
    unfold standing_stands
    rw [(cy_cask hE).2]
    rfl
  obtain ⟨lv, hlv⟩ : ∃ lv, lv = srtL (rawL (cyP r h) h n) := ⟨_, rfl⟩
  have hL : levelsM (cyP r h) h n = (lv, 0) := by
    unfold levelsM
    rw [hE, if_neg (by decide), e1, if_neg (by simp; omega), hlv]
  have hg : Grid lv 0 h := by rw [hlv]; exact levels_grid ok (by omega) (by omega) hn hn2
  have hlen : lv.length ≤ 67 := by
    have := levels_len (cyP r h) h n
    rw [hL] at this
    exact this
  have hlen2 : 2 ≤ lv.length := by
    rcases Nat.lt_or_ge 1 lv.length with h1 | h1
    · exact h1
    · have a := hg.fst
      have b := hg.lst
      rw [show lv.length - 1 = 0 by omega, a] at b
      omega
  have hck : stCheck cS 2 (cyP r h) 0 lv = 0 := stCheck_ok hst ok hg (by rw [e1]; exact Int.le_refl _) hlen2 (by omega) fun i hi hx => by
    rw [hlv]
    exact (mem_levels (by omega) (by omega) hn hn2).2 (.inr ⟨i, hi, hx, rfl⟩)
  have hsl : ∀ i, i < lv.length - 1 → slB (cyP r h) lv i = r ∧ slC (cyP r h) lv i = r := fun i hi => cy_sl hE hg (by omega)
  obtain ⟨s1, s2, s3⟩ := stS_eq (l := cyP r h) (lv := lv) (lv.length - 1) (by omega) (fun i hi => by have := hg.range (i := i) (by omega); omega) (fun i hi => hg.mono (by omega) (by omega)) (fun i hi => by rw [(hsl i hi).1, (hsl i hi).2]; omega)
  have c1 : sumS (fun i => lv.getD i 0) (fun i => slB (cyP r h) lv i * slB (cyP r h) lv i) (lv.length - 1) = h * (r * r) := by
    rw [sumS_const (c := r * r) _ (fun i hi => by rw [(hsl i hi).1])]
    rw [hg.lst, hg.fst, Int.sub_zero]
  have c2 : sumS (fun i => lv.getD i 0) (fun i => slC (cyP r h) lv i * slC (cyP r h) lv i) (lv.length - 1) = h * (r * r) := by
    rw [sumS_const (c := r * r) _ (fun i hi => by rw [(hsl i hi).2])]
    rw [hg.lst, hg.fst, Int.sub_zero]
  rw [c1, c2] at s1
  have hb := hg.lst
  have ha := hg.fst
  unfold stWet
  rw [hst, if_neg (by decide), hL]
  simp only
  rw [if_neg (by simp; omega)]
  unfold stBet
  rw [hck, if_neg (by decide)]
  have hq : stLast (cyP r h) lv = (3 * (h * (r * r)), 3 * (h * (r * r))) := s1
  have hY := mulB (a := h) (b := r * r) (m := 100000) (n := 10000000000) (by omega) (by omega) (sqs (by omega) (by omega)).1 (sqs (by omega) (by omega)).2
  rw [hq, space_eq (by omega) (by omega) (by omega) (by omega)]
theorem cy_bung {r h : Int} : (pt (cyP r h) (bungN (cyP r h) (cyP r h).length)).2 = r := by
  show (pt (cyP r h) (bungN (cyP r h) 2)).2 = r
  have h1 : bungN (cyP r h) 1 = 0 := by
    show (if (pt (cyP r h) 0).2 > (pt (cyP r h) 0).2 then 0 else 0) = 0
    split <;> rfl
  have h2 : bungN (cyP r h) 2 = 0 := by
    show (if (pt (cyP r h) 1).2 > (pt (cyP r h) (bungN (cyP r h) 1)).2 then 1 else bungN (cyP r h) 1) = 0
    rw [h1, if_neg]
    show ¬ r > r
    omega
  rw [h2]
  rfl
theorem cy_lie {r h m n : Int} (hE : profE (cyP r h) = 0) (hm : 1 ≤ m) (hm2 : m ≤ 8) (hn : 1 ≤ n) (hn2 : n ≤ 32) : ∃ a b : Int, cutM cS 1 (cyP r h) 0 (IntKind.i64.wrap (2 * r)) m n = (2 * (h * a), 2 * (h * b), 0) ∧ 113 * (2 * a) ≤ 355 * (r * r) ∧ 333 * (r * r) ≤ 106 * (2 * b) := by
  obtain ⟨hr, hh⟩ := cy_ok hE
  have ok := profE_ok hE
  have hdip : IntKind.i64.wrap (2 * r) = 2 * r := w64 (by omega) (by omega)
  have hst : lying_lies cS 1 (cyP r h) 0 = 0 := by
    unfold lying_lies
    rw [(cy_cask hE).1]
    rfl
  have hdp : depthM cS 1 (cyP r h) 0 = (2 * r, 0) := by
    unfold depthM
    rw [(cy_cask hE).1, if_neg (by decide), if_pos (by decide), cy_bung, hdip]
  have hs1 : lying_strips m = true := by simp [lying_strips]; omega
  have hs2 : lying_strips n = true := by simp [lying_strips]; omega
  obtain ⟨p, hp⟩ : ∃ p, p = outerS (cyP r h) m 1 := ⟨_, rfl⟩
  have hg : Grid p 0 h := by rw [hp]; exact (outerS_grid ok hm (by omega) 1 (show 1 < 2 by decide)).1
  have hpl : p.length ≤ 9 := by
    have := (outerS_len (cyP r h) m 1).2
    rw [← hp] at this
    omega
  have hsl : slicesM (cyP r h) m = (p, 0) := by
    unfold slicesM
    rw [hE, if_neg (by decide), hs1, if_neg (by decide), show (cyP r h).length - 1 = 1 from rfl, ← hp, if_neg (by simp; omega)]
  obtain ⟨hs, hhs⟩ : ∃ hs, hs = hsM (2 * r) n (n.toNat + 1) := ⟨_, rfl⟩
  have hok : HOK hs := by rw [hhs]; exact hs_ok (by omega) (by omega) hn (by omega)
  have hl : hs.length = n.toNat + 1 := by rw [hhs]; exact hsM_len _ _ _
  have hf : hs.getD 0 0 = 0 := by rw [hhs]; exact hs_first (by omega) (by omega) hn (by omega)
  have hla : hs.getD (hs.length - 1) 0 = 2 * r := by rw [hl, Nat.add_sub_cancel, hhs]; exact hs_last (by omega) (by omega) hn (by omega)
  have hlen2 : 2 ≤ p.length := by
    rcases Nat.lt_or_ge 1 p.length with h1 | h1
    · exact h1
    · have a := hg.fst
      have b := hg.lst
      have := hg.len
      rw [show p.length - 1 = 0 by omega, a] at b
      omega
  have hsr : ∀ i, i < p.length - 1 → slB (cyP r h) p i = r ∧ slC (cyP r h) p i = r := fun i hi => cy_sl hE hg (by omega)
  have hod : IntKind.i64.wrap ((2 * r).tdiv 2) = r := by
    rw [tdiv_ediv (by omega), Int.mul_ediv_cancel_left r (show (2 : Int) ≠ 0 by decide), w64 (by omega) (by omega)]
  obtain ⟨s1, _, _⟩ := betS_eq (l := cyP r h) (p := p) (hs := hs) (dp := 2 * r) (o := r) hok (by omega) hod (p.length - 1) (by omega) (fun i hi => by have := hg.range (i := i) (by omega); omega) (fun i hi => hg.mono (by omega) (by omega)) (fun i hi => by rw [(hsr i hi).1, (hsr i hi).2]; omega)
  have c1 : sumS (fun i => p.getD i 0) (fun i => AL hs r (slB (cyP r h) p i)) (p.length - 1) = h * AL hs r r := by
    rw [sumS_const (c := AL hs r r) _ (fun i hi => by rw [(hsr i hi).1]), hg.lst, hg.fst, Int.sub_zero]
  have c2 : sumS (fun i => p.getD i 0) (fun i => AH hs r (slC (cyP r h) p i)) (p.length - 1) = h * AH hs r r := by
    rw [sumS_const (c := AH hs r r) _ (fun i hi => by rw [(hsr i hi).2]), hg.lst, hg.fst, Int.sub_zero]
  rw [c1, c2] at s1
  refine ⟨AL hs r r, AH hs r r, ?_, AL_le hok (by omega) (by omega) (by omega), AH_ge hok (by omega) (by omega) (by omega) (by omega) (by omega)⟩
  unfold cutM
  rw [hst, if_neg (by decide), hdp, hdip, hs1, hs2, hsl, ← hhs]
  simp only
  rw [if_neg (by simp; omega), if_neg (by decide)]
  show ((betS (cyP r h) p hs (2 * r) (p.length - 1)).1, (betS (cyP r h) p hs (2 * r) (p.length - 1)).2, 0) = _
  rw [s1]
theorem topCyl_true (r h m n : Int) : topCyl r h m n = true := by
  unfold topCyl
  split
  · rfl
  rename_i h1
  have hg : (1 ≤ m ∧ m ≤ 8) ∧ (1 ≤ n ∧ n ≤ 32) := by
    simp only [Bool.or_eq_true, decide_eq_true_eq, not_or] at h1
    omega
  by_cases hE : profE (cyP r h) = 0
  · rw [cap_eq hE, if_neg (show ¬ ((0 : Int) != 0) = true by decide)]
    obtain ⟨hr, hh⟩ := cy_ok hE
    obtain ⟨a, b, e1, e2, e3⟩ := cy_lie hE hg.1.1 hg.1.2 hg.2.1 hg.2.2
    have hF : Fq (cyP r h) ((cyP r h).length - 1) = 3 * (h * (r * r)) := by
      show 0 + (h - 0) * (r * r + r * r + r * r) = _
      rw [Int.sub_zero, Int.zero_add, show r * r + r * r + r * r = 3 * (r * r) by omega, Int.mul_left_comm]
    have hq := sqs (s := r) (by omega) (by omega)
    have hw : segment_Whole r = (r * r * 333 / 106, (r * r * 355 + 112) / 113, 0) := by
      unfold segment_Whole
      rw [if_neg (by simp [segment_measure]; omega), w64 (x := r * r) (by omega) (by omega), w64 (x := r * r * 333) (by omega) (by omega), w64 (x := r * r * 355) (by omega) (by omega), w64 (x := r * r * 355 + 112) (by omega) (by omega), tdiv_ediv (by omega), tdiv_ediv (by omega), w64 (by omega) (by omega), w64 (by omega) (by omega)]
    unfold cylB
    rw [cap_eq hE, hF, e1, cy_stand hE hg.2.1 (by omega), hw]
    obtain ⟨X, hX⟩ : ∃ X, X = h * a := ⟨_, rfl⟩
    obtain ⟨Y, hY⟩ : ∃ Y, Y = h * (r * r) := ⟨_, rfl⟩
    obtain ⟨Z, hZ⟩ : ∃ Z, Z = h * b := ⟨_, rfl⟩
    have i1 : 113 * (2 * X) ≤ 355 * Y := by
      have := Int.mul_le_mul_of_nonneg_left e2 (show 0 ≤ h by omega)
      rw [Int.mul_left_comm h 113, Int.mul_left_comm h 2, Int.mul_left_comm h 355, ← hX, ← hY] at this
      exact this
    have i2 : 333 * Y ≤ 106 * (2 * Z) := by
      have := Int.mul_le_mul_of_nonneg_left e3 (show 0 ≤ h by omega)
      rw [Int.mul_left_comm h 333, Int.mul_left_comm h 106, Int.mul_left_comm h 2, ← hZ, ← hY] at this
      exact this
    obtain ⟨W1, hW1⟩ : ∃ W, W = r * r * 333 / 106 := ⟨_, rfl⟩
    obtain ⟨W2, hW2⟩ : ∃ W, W = (r * r * 355 + 112) / 113 := ⟨_, rfl⟩
    have j1 : W1 * 106 ≤ 333 * (r * r) := by omega
    have j2 : 355 * (r * r) ≤ W2 * 113 := by omega
    have k0 := mulB (a := W1) (b := h) (m := 40000000000) (n := 100000) (by omega) (by omega) (by omega) (by omega)
    have k1 := mulB (a := W2) (b := h) (m := 40000000000) (n := 100000) (by omega) (by omega) (by omega) (by omega)
    have j3 : W1 * h * 106 ≤ 333 * Y := by
      have := Int.mul_le_mul_of_nonneg_left j1 (show 0 ≤ h by omega)
      rw [Int.mul_left_comm h 333, ← hY, ← Int.mul_assoc, Int.mul_comm h W1] at this
      exact this
    have j4 : 355 * Y ≤ W2 * h * 113 := by
      have := Int.mul_le_mul_of_nonneg_left j2 (show 0 ≤ h by omega)
      rw [Int.mul_left_comm h 355, ← hY, ← Int.mul_assoc, Int.mul_comm h W2] at this
      exact this
    have y0 : 0 ≤ Y := by rw [hY]; exact Int.mul_nonneg (by omega) hq.1
    rw [← hX, ← hY, ← hZ, ← hW1, ← hW2, w64 (x := W1 * h) (by omega) (by omega), w64 (x := W2 * h) (by omega) (by omega)]
    simp only [meetB, two3, spL, spH, Bool.and_eq_true, decide_eq_true_eq, beq_iff_eq]
    and_intros <;> first | trivial | (apply decide_eq_true; omega)
  · have e : capacity_Space (cyP r h) = (0, 0, profE (cyP r h)) := by
      have : frM (cyP r h) = (0, profE (cyP r h)) := by rw [frM, if_pos (by simpa using hE)]
      unfold capacity_Space
      rw [this]
      simp only
      rw [if_pos (by simpa using hE)]
    rw [e, if_pos (by simpa using hE)]
    rfl
end Go.Proofs.YtphipfmidfoflaaGreat
/- Top: the walk of TopCylinders. -/
set_option linter.unusedVariables false
set_option linter.unusedSimpArgs false
set_option maxRecDepth 8000
set_option maxHeartbeats 1000000
namespace Go.Proofs.YtphipfmidfoflaaGreat
open Go.Sx Go.RowKit
/-- TopCylinders answers yes, whatever it is given. -/
theorem topCylinders_walk (r h m n : Int) (w : World) : Calls Tryz.prog 4 #[I r, I h, I m, I n] w fun e w' => e = .returned (.bool true) ∧ Below w.heap.size w w' := by
  have := topCyl_any r h m n w
  rw [topCyl_true] at this
  exact this
end Go.Proofs.YtphipfmidfoflaaGreat
