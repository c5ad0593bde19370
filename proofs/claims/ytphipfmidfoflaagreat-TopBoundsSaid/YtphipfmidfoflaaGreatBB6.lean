/- Top: TopBounds for every argument. -/
import Derived.Test.YtphipfmidfoflaaGreatBB5
/- Top: the tables of marks. -/
set_option linter.unusedVariables false
set_option linter.unusedSimpArgs false
set_option maxRecDepth 8000
set_option maxHeartbeats 2000000
namespace Go.Proofs.YtphipfmidfoflaaGreat
open Go.Sx Go.RowKit
theorem mpK : MpK Tryz.prog 76 3 := ⟨⟨_, rfl⟩, by kernel_rfl⟩
theorem apMk : ApT Tryz.prog 45 58 2 16 (.agg #[I 0, I 0]) := ⟨by kernel_rfl, by kernel_rfl, rfl, by decide⟩
def fnV (f : FuncId) : Value := .func (.func f) #[] #[]
/-- What is told of the marks. -/
def RM (g0 k : Nat) (el : Nat → List Value) (A : Option Addr) (c : Nat) (S : Nat → Prop) (w : World) : Prop := (∀ j, S j ↔ gb A j) ∧ (∀ j, S j → g0 ≤ j) ∧ GrowAt w A k c 58 2 el
theorem RM.steady {g0 k : Nat} {el : Nat → List Value} {A : Option Addr} {c : Nat} {S : Nat → Prop} : Steady S (RM g0 k el A c S) := by
  rintro w1 w2 h1 h2 ⟨e2, e3, e4⟩
  exact ⟨e2, e3, GrowAt.steady w1 w2 (fun k hk => h1 k ((e2 k).2 hk)) h2 e4⟩
/-- A row with its place: address, capacity, blocks. -/
structure Grow where
  A : Option Addr
  c : Nat
  S : Nat → Prop
def BuAns (w w' : World) (n : Nat) (e : Ending) : Prop := ∃ (u : Option Addr × Nat) (wd : Int), e = .returned (.tuple #[.agg #[.slice u.1 n u.2, I wd], I 0]) ∧ Below w.heap.size w w'
def bwR (w : World) (u : (Option Addr × Nat) × Nat) (o : List (Int × Int)) (w1 : World) : Prop := RdRow w1 u.1.1 o.length 2 (elP o) ∧ (∀ k, sb (.slice u.1.1 o.length u.1.2) k → k < u.2) ∧ w.heap.size ≤ u.2 ∧ u.2 ≤ w1.heap.size
theorem dipBuild_any (s : ByteArray) (A : Option Addr) (c : Nat) (l : List (Int × Int)) (decl : Int) (B : Option Addr) (d : Nat) (lv : List Int) (n : Int) (w : World) (h3 : RdRow w A l.length 2 (elP l)) (h4 : RdRow w B lv.length 1 (elI lv)) (hn : l.length ≤ 100000) (hl1 : 1 ≤ lv.length) (hl2 : lv.length ≤ 1000) (hd : lv.length ≤ d)
    (hf : faultM s 1 l decl lv n = 0) (h5 : (slicesM l n).2 = 0) (h6 : ∀ k, k + 1 < lv.length → (bE s 1 l decl (slicesM l n).1 lv k).2.2 = 0) :
    Calls Tryz.prog 16 #[.agg #[.string s, I 1, .slice A l.length c, I decl], .slice B lv.length d, I n] w fun e w' => BuAns w w' lv.length e := by
  have hltB : ∀ k, sb (.slice B lv.length d) k → k < w.heap.size := sb_lt h4
  refine enterSay [] [.agg [.k (.string s), .k (I 1), .k (.slice A l.length c), .k (I decl)], .c (.k (.slice B lv.length d)), .c (.k (I n))]
    [(801, .say (sb (.slice A l.length c)) (fun w => RdRow w A l.length 2 (elP l))), (802, .say (sb (.slice B lv.length d)) (fun w => RdRow w B lv.length 1 (elI lv)))] Tryz.func16 rfl 75 Tryz.ntmps16 rfl rfl ⟨⟨trivial, trivial, trivial, trivial, trivial⟩, trivial, trivial, trivial⟩
    ⟨⟨h3, sb_lt h3, steady_row⟩, ⟨fun h => h.elim, fun h => h.elim, trivial⟩, ⟨h4, hltB, steady_row⟩, trivial, trivial⟩ ?_
  refine G.seqR tfine rfl trivial ?_
  refine G.seq ?_
  refine G.seqC tfine rfl trivial ?_
  refine GO.callPlain (v := I 0) rfl rfl rfl rfl (fun args w => Tryz.call34 args w) (fun ρ w hs hok => ?_) ?_
  · have := fault_any s 1 A c l decl B d lv n w (hs.ok 801 _ rfl).1 (hs.ok 802 _ rfl).1 hn (by omega)
    rw [hf] at this
    exact this
  refine GO.fin tfine rfl trivial ?_
  refine G.seqR tfine rfl trivial ?_
  refine G.cond_false rfl ?_
  refine G.skip ?_
  refine G.seqC tfine rfl trivial ?_
  refine GO.makeMapK rfl rfl rfl rfl rfl rfl ?_
  refine GO.insertK 24 [] 1 (fnV 35) mpK rfl rfl rfl rfl rfl rfl rfl rfl ?_
  refine GO.insertK 24 [(1, fnV 35)] 2 (fnV 36) mpK rfl rfl rfl rfl rfl rfl rfl rfl ?_
  refine GO.fin tfine rfl trivial ?_
  refine G.seqC tfine rfl trivial ?_
  refine GO.lookupK 24 [(1, fnV 35), (2, fnV 36)] 1 (fnV 35) mpK rfl rfl rfl rfl rfl rfl rfl ?_
  refine GO.more tfine rfl trivial ?_
  obtain ⟨o, ho⟩ : ∃ o, o = liL s 1 l decl (slicesM l n).1 lv (lv.length - 1) := ⟨_, rfl⟩
  have hol : o.length = lv.length := by rw [ho, liL_len]; omega
  refine GO.callSay 812 (fun u : (Option Addr × Nat) × Nat => .tuple #[.slice u.1.1 o.length u.1.2, I 0]) (fun u => sb (.slice u.1.1 o.length u.1.2)) (fun u w1 => bwR w u o w1) rfl rfl rfl rfl rfl (fun args w => Tryz.call35 args w) (fun ρ w1 hs hok => ?_) fun u => ?_
  · have := dipLies_any s 1 A c l decl B d lv n w1 (hs.ok 801 _ rfl).1 (hs.ok 802 _ rfl).1 hn hl1 (by omega) hd h5 h6
    refine this.mono ?_
    rintro e w' ⟨u, rfl, hb, hr, hk, hst⟩
    rw [← ho] at hr hk hst ⊢
    refine ⟨(u, w'.heap.size), rfl, hb, ⟨hr, fun k h => (hk k h).2, Nat.le_trans hs.fr.size hb.size, Nat.le_refl _⟩, fun k h => ⟨Nat.le_trans (Nat.le_refl _) (hk k h).1, (hk k h).2⟩, ?_⟩
    rintro x1 x2 y1 y2 ⟨y3, y4, y5, y6⟩
    exact ⟨hst x1 x2 y1 y2 y3, y4, y5, Nat.le_trans y6 y2⟩
  refine GO.fin tfine rfl trivial ?_
  refine G.seq ?_
  refine G.seqR tfine rfl trivial ?_
  refine G.cond_false rfl ?_
  refine G.skip ?_
  refine G.seqR tfine rfl trivial ?_
  refine G.fact 812 (φ := (∀ k, sb (.slice u.1.1 o.length u.1.2) k → k < u.2) ∧ w.heap.size ≤ u.2) rfl (fun w1 h => ⟨h.2.1, h.2.2.1⟩) fun hu => ?_
  refine G.openSay 802 806 1 rfl (fun _ h => h) (fun _ h => h) rfl rfl rfl ?_
  refine G.seq (G.seqR tfine rfl trivial ?_)
  refine G.openSay 812 816 41 rfl (fun _ h => h.1) (fun _ h => h) rfl rfl rfl ?_
  refine G.sem fun ρ a w1 hs => ⟨ρ, _, hs.tell (y := 701) (fun _ => False) (RM u.2 0 (elP []) none 0 (fun _ => False)) ⟨fun j => ⟨fun h => h.elim, fun ⟨a, h, _⟩ => by cases h⟩, fun j h => h.elim, .inl ⟨rfl, rfl, rfl⟩⟩ (fun k hk => hk.elim) RM.steady (fun b hb => by cases hb) (fun z c _ _ hk => hk), ?_⟩
  refine G.block (G.loop (fun z : Nat × Grow × Int × List (Int × Int) => St.of [(1, .v (.c (.inp 806 B lv.length d))), (12, .v (.c (.ptr 12 0 0 0))), (6, .v (.c (.ptr 6 0 0 0))), (41, .v (.c (.inp 816 u.1.1 o.length u.1.2))), (42, .v (.c (.k (I o.length)))), (43, .v (.c (.k (I z.1))))]
      [(802, .say (sb (.slice B lv.length d)) (fun w => RdRow w B lv.length 1 (elI lv))), (806, .ro 1 lv.length (elI lv)), (812, .say (sb (.slice u.1.1 o.length u.1.2)) (fun w1 => bwR w u o w1)), (816, .ro 2 o.length (elP o)), (12, .var 47 [.k (.slice z.2.1.A z.1 z.2.1.c), .k (I z.2.2.1)]), (6, .var 47 [.k (.slice none 0 0), .k (I 0)]), (701, .say z.2.1.S (RM u.2 z.1 (elP z.2.2.2) z.2.1.A z.2.1.c z.2.1.S))])
    (fun z => z.1 ≤ o.length ∧ z.2.2.2.length = z.1) (fun z => o.length - z.1) (0, ⟨none, 0, fun _ => False⟩, 0, []) ⟨Nat.zero_le _, rfl⟩
    (St.le_of rfl ⟨⟨_, rfl, Blk.le_refl _⟩, ⟨_, rfl, Blk.le_refl _⟩, ⟨_, rfl, Blk.le_refl _⟩, ⟨_, rfl, Blk.le_refl _⟩, ⟨_, rfl, Blk.le_refl _⟩, ⟨_, rfl, Blk.le_refl _⟩, ⟨_, rfl, Blk.le_refl _⟩, trivial⟩ ⟨rfl, rfl, rfl, rfl, rfl, rfl, trivial⟩) ?_)
  rintro ⟨k, ⟨A2, c2, v2⟩, wd, ms⟩ ⟨hk, hms⟩
  simp only at hk hms
  refine G.fact 701 (φ := (∀ j, v2 j ↔ gb A2 j) ∧ ∀ j, v2 j → u.2 ≤ j) rfl (fun w1 ⟨e2, e3, _⟩ => ⟨e2, e3⟩) fun hv => ?_
  obtain ⟨hv2, hv3⟩ := hv
  refine G.seqR tfine rfl trivial ?_
  refine G.seq (G.cond (b := decide ((k : Int) < (o.length : Int))) rfl (fun h7 => ?_) (fun h7 => ?_))
  rotate_left
  · have h7 := of_decide_eq_false h7
    have hkl : k = o.length := by omega
    refine G.exit ?_
    refine G.seqR tfine rfl trivial ?_
    refine G.ret ⟨.inl rfl, fun ρ a w' hs => ⟨.tuple #[.agg #[.slice A2 k c2, I wd], I 0], results_run tfine hs rfl, (A2, c2), wd, ?_, hs.mem.fr.toBelow⟩⟩
    rw [hkl, hol]
  have h7 := of_decide_eq_true h7
  have hlt : k < o.length := by omega
  have hw3 : IntKind.i64.wrap ((k : Int) + 1) = ((k + 1 : Nat) : Int) := IntWalk.i64_in _ (by omega)
  refine G.skip ?_
  refine G.seq (G.block ?_)
  refine G.seqR tfine rfl ?_ ?_
  · first | trivial | (simp [AllP, condB]; done) | (simp only [AllP]; and_intros <;> first | trivial | decide | omega) | (simp [AllP, condB]; intros; and_intros <;> first | assumption | omega) | (simp [AllP, condB]; intros; simp_all; done)
  refine G.seqR tfine rfl ?_ ?_
  · first | trivial | (simp [AllP, condB]; done) | (simp only [AllP]; and_intros <;> first | trivial | decide | omega) | (simp [AllP, condB]; intros; and_intros <;> first | assumption | omega) | (simp [AllP, condB]; intros; simp_all; done)
  obtain ⟨ml0, hml0⟩ : ∃ ml0 : List (Nat × Blk), ml0 = [(802, .say (sb (.slice B lv.length d)) (fun w => RdRow w B lv.length 1 (elI lv))), (806, .ro 1 lv.length (elI lv)), (812, .say (sb (.slice u.1.1 o.length u.1.2)) (fun w1 => bwR w u o w1)), (816, .ro 2 o.length (elP o)), (12, .var 47 [.k (.slice A2 k c2), .k (I wd)]), (6, .var 47 [.k (.slice none 0 0), .k (I 0)]), (701, .say v2 (RM u.2 k (elP ms) A2 c2 v2)), (14, .var 33 [.k (I (pt o k).1), .k (I (pt o k).2)])] := ⟨_, rfl⟩
  refine G.weaken (st' := St.of [(1, .v (.c (.inp 806 B lv.length d))), (12, .v (.c (.ptr 12 0 0 0))), (6, .v (.c (.ptr 6 0 0 0))), (41, .v (.c (.inp 816 u.1.1 o.length u.1.2))), (42, .v (.c (.k (I o.length)))), (43, .v (.c (.k (I k)))), (13, .v (.c (.k (I k)))), (14, .v (.c (.ptr 14 0 0 0))), (15, .v (.c (.k (I (IntKind.i64.wrap ((pt o k).1.tdiv 1000000))))))]
      [(802, .say (sb (.slice B lv.length d)) (fun w => RdRow w B lv.length 1 (elI lv))), (806, .ro 1 lv.length (elI lv)), (812, .say (sb (.slice u.1.1 o.length u.1.2)) (fun w1 => bwR w u o w1)), (816, .ro 2 o.length (elP o)), (12, .var 47 [.k (.slice A2 k c2), .k (I wd)]), (6, .var 47 [.k (.slice none 0 0), .k (I 0)]), (701, .say v2 (RM u.2 k (elP ms) A2 c2 v2)), (14, .var 33 [.k (I (pt o k).1), .k (I (pt o k).2)])])
    (St.le_of rfl ⟨⟨_, rfl, Blk.le_refl _⟩, ⟨_, rfl, Blk.le_refl _⟩, ⟨_, rfl, Blk.le_refl _⟩, ⟨_, rfl, Blk.le_refl _⟩, ⟨_, rfl, Blk.le_refl _⟩, ⟨_, rfl, Blk.le_refl _⟩, ⟨_, rfl, Blk.le_refl _⟩, ⟨_, rfl, Blk.le_refl _⟩, trivial⟩ ⟨rfl, rfl, rfl, rfl, rfl, rfl, rfl, rfl, rfl, trivial⟩) ?_
  refine G.seq ?_
  obtain ⟨mk, hmk⟩ : ∃ mk : Int × Int, mk = (lv.getD k 0, IntKind.i64.wrap ((pt o k).1.tdiv 1000000)) := ⟨_, rfl⟩
  apply G.drawC (ch := fun j => match j with | 9 => some (growF 701 (k + 1) (fun q => RM u.2 (k + 1) (elP (ms ++ [mk])) (adrV q.1) (cpV q.1) q.2)) | _ => none) (cls := [0, 1, 0, 0, 12, 28, 0, 124, 252, 511, 1023, 2047]) (X := [(9, 701), (11, 12)]) hmix rfl rfl rfl
  · intro ch
    refine GC.more tfine 0 rfl rfl rfl ?_ ?_
    · simp only [AllP]
      and_intros <;> first | trivial | omega
    refine GC.choice 9 rfl _ rfl (StepsC.appendSay (el := elP ms) 701 [I mk.1, I mk.2] (fun q => RM u.2 (k + 1) (elP (ms ++ [mk])) (adrV q.1) (cpV q.1) q.2) apMk rfl rfl rfl rfl rfl rfl (fun j hj => (hv2 j).2 hj) (fun w1 ⟨e2, e3, e4⟩ => e4) (fun j hj => Nat.le_trans hu.2 (hv3 j ((hv2 j).2 hj))) (fun ρ a w2 hs2 x b hx hb hlv => ?_) rfl (by rw [hmk]; rfl) rfl (fun q hq => by simp at hq; rcases hq with rfl | rfl <;> rfl) (fun j hj => rfl) (by unfold maxLen; omega) (by omega) (fun ρ a w2 hs2 g c' w' hc' hg hglt hsz hgr => ?_) (fun i => RM.steady)) rfl (fun v x hx => ?_) rfl ?_
    · have hq : lkM ml0 x = some b ∨ b.own := by
        refine canF_all (Q := fun y b => lkM ml0 y = some b ∨ b.own) (i := 9) ?_ ?_ ?_ x b hb
        · rfl
        · rw [hml0]; exact fun y b h => .inl h
        · simp [allRc, allMs, Blk.own]
      rcases hq with hq | hq
      · rcases lkM_mem (ml := ml0) (j := x) with h8 | ⟨q, hq1, rfl, h8⟩
        · rw [h8] at hq; cases hq
        rw [h8] at hq
        injection hq with hq
        rw [hml0] at hq1
        simp only [List.mem_cons, List.not_mem_nil, or_false] at hq1
        rcases hq1 with rfl | rfl | rfl | rfl | rfl | rfl | rfl | rfl
        · subst hq
          exact .inr fun j h1 h2 => by have := hltB j h1; have := hv3 j h2; have := hu.2; omega
        · subst hq
          refine .inr fun j h1 h2 => ?_
          have h9 : TV.rep ρ _ (.v (.c (.inp 806 B lv.length d))) _ := hs2.tm 1
          have h10 := h9.1.2 (show 0 < lv.length by omega)
          have h11 := hltB (ρ 806).1 ⟨by omega, _, h10, rfl⟩
          have h1 : j = (ρ 806).1 := h1
          have := hv3 j h2
          have := hu.2
          omega
        · subst hq
          exact .inr fun j h1 h2 => by have := hu.1 j h1; have := hv3 j h2; omega
        · subst hq
          refine .inr fun j h1 h2 => ?_
          have h9 : TV.rep ρ _ (.v (.c (.inp 816 u.1.1 o.length u.1.2))) _ := hs2.tm 41
          have h10 := h9.1.2 (show 0 < o.length by omega)
          have h11 := hu.1 (ρ 816).1 ⟨by omega, _, h10, rfl⟩
          have h1 : j = (ρ 816).1 := h1
          have := hv3 j h2
          omega
        · exact .inl (hq ▸ trivial)
        · exact .inl (hq ▸ trivial)
        · exact absurd rfl hx
        · exact .inl (hq ▸ trivial)
      · exact .inl hq
    · have h9 := (hs2.mem.ok 812 _ rfl).1
      have h9 : u.2 ≤ w2.heap.size := h9.2.2.2
      refine ⟨fun j => Iff.rfl, fun j hj => ?_, ?_⟩
      · obtain ⟨a', ha, rfl⟩ := hj
        injection ha with ha
        rw [← ha]
        rcases hg with h | h
        · exact hv3 g ((hv2 g).2 ⟨_, h, rfl⟩)
        · exact Nat.le_trans h9 h
      · rcases hgr with ⟨h0, _⟩ | ⟨b', e, ho', hn'⟩
        · omega
        · exact .inr ⟨b', e, ho'.congr fun i hi => by
            have := elP_snoc ms mk i (by omega)
            rw [hms] at this
            exact this, hn'⟩
    · simp only [growF, mget] at hx
      cases hb1 : Nat.beq x 701 with
      | true => rw [Nat.eq_of_beq_eq_true hb1]; exact .head _
      | false => rw [hb1] at hx; cases hx
    refine GC.more tfine 10 rfl rfl rfl trivial ?_
    refine GC.nil ?_
    refine G.reg tfine rfl ?_ ?_
    · first | trivial | (simp [AllP, condB]; done) | (simp only [AllP]; and_intros <;> first | trivial | decide | omega) | (simp [AllP, condB]; intros; and_intros <;> first | assumption | omega) | (simp [AllP, condB]; intros; simp_all; done)
    refine G.reg tfine rfl trivial ?_
    refine ⟨(k + 1, ⟨adrV (ch 9).1, cpV (ch 9).1, (ch 9).2⟩, _, ms ++ [mk]), ⟨hlt, by simp [hms]⟩, (by show o.length - (k + 1) < o.length - k; omega), St.le_of rfl ⟨⟨_, rfl, Blk.le_refl _⟩, ⟨_, rfl, Blk.le_refl _⟩, ⟨_, rfl, Blk.le_refl _⟩, ⟨_, rfl, Blk.le_refl _⟩, ⟨_, rfl, Blk.le_refl _⟩, ⟨_, rfl, Blk.le_refl _⟩, ⟨_, rfl, Blk.le_refl _⟩, trivial⟩ ⟨rfl, rfl, rfl, rfl, rfl, ?_, trivial⟩⟩
    show TV.v (.c (.k (I (IntKind.i64.wrap ((k : Int) + 1))))) = _
    rw [hw3]
  ·
    intro c c' j hj h
    have hj : j < 12 := hj
    match j, hj, h with
    | 0, _, h => first | rfl | (show some _ = some _; done)
    | 1, _, h => first | rfl | (show some _ = some _; done)
    | 2, _, h => first | rfl | (show some _ = some _; done)
    | 3, _, h => first | rfl | (show some _ = some _; done)
    | 4, _, h => first | rfl | (show some _ = some _; done)
    | 5, _, h => first | rfl | (show some _ = some _; done)
    | 6, _, h => first | rfl | (show some _ = some _; done)
    | 7, _, h => first | rfl | (show some _ = some _; done)
    | 8, _, h => first | rfl | (show some _ = some _; done)
    | 9, _, h => first | rfl | (show some _ = some _; (try rw [h 9 (.inl rfl)]); (try rw [h 9 (.inr ⟨rfl, rfl⟩)]); done)
    | 10, _, h => first | rfl | (show some _ = some _; (try rw [h 9 (.inl rfl)]); (try rw [h 9 (.inr ⟨rfl, rfl⟩)]); done)
    | 11, _, h => first | rfl | (show some _ = some _; (try rw [h 9 (.inl rfl)]); (try rw [h 9 (.inr ⟨rfl, rfl⟩)]); done)
    | q + 12, hj, h => exact absurd hj (by omega)
end Go.Proofs.YtphipfmidfoflaaGreat
/- Top: ten divided in three. -/
set_option linter.unusedVariables false
set_option linter.unusedSimpArgs false
set_option maxRecDepth 8000
set_option maxHeartbeats 2000000
namespace Go.Proofs.YtphipfmidfoflaaGreat
open Go.Sx Go.RowKit
/-! ### Comparing -/
def sgnI (p q : Int) : Int := if p < q then -1 else if q < p then 1 else 0
theorem isNaNi_any (n : Int) (w : World) : Calls Tryz.prog 74 #[I n] w fun e w' => e = .returned (.bool false) ∧ Below w.heap.size w w' := by
  refine enterPlain tfine Tryz.func74 rfl 6 Tryz.ntmps74 [.c (.k (I n))] [] rfl rfl trivial ⟨trivial, trivial⟩ ?_
  refine G.seqR tfine rfl trivial ?_
  refine G.seqR tfine rfl trivial ?_
  exact G.ret (endK.ret rfl (by simp))
theorem cmpi_any (p q : Int) (w : World) : Calls Tryz.prog 41 #[I p, I q] w fun e w' => e = .returned (I (sgnI p q)) ∧ Below w.heap.size w w' := by
  refine enterPlain tfine Tryz.func41 rfl 20 Tryz.ntmps41 [.c (.k (I p)), .c (.k (I q))] [] rfl rfl trivial ⟨trivial, trivial, trivial⟩ ?_
  refine G.seqR tfine rfl trivial ?_
  refine G.seqC tfine rfl trivial ?_
  refine GO.callPlain rfl rfl rfl rfl (fun args w => Tryz.call74 args w) (fun ρ w _ _ => isNaNi_any p w) ?_
  refine GO.fin tfine rfl trivial ?_
  refine G.seqC tfine rfl trivial ?_
  refine GO.callPlain rfl rfl rfl rfl (fun args w => Tryz.call74 args w) (fun ρ w _ _ => isNaNi_any q w) ?_
  refine GO.fin tfine rfl trivial ?_
  refine G.seq (G.seqR tfine rfl trivial ?_)
  refine G.cond_false rfl ?_
  refine G.skip ?_
  refine G.seq (G.seqR tfine rfl trivial ?_)
  refine G.cond_false rfl ?_
  refine G.skip ?_
  refine G.seq (G.seqR tfine rfl trivial ?_)
  refine G.cond (b := decide (p < q)) rfl (fun h => ?_) (fun h => ?_)
  · have h := of_decide_eq_true h
    refine G.seqR tfine rfl trivial ?_
    exact G.ret (endK.ret rfl (by rw [sgnI, if_pos (by omega)]))
  have h := of_decide_eq_false h
  refine G.skip ?_
  refine G.seq (G.seqR tfine rfl trivial ?_)
  refine G.cond (b := decide (p > q)) rfl (fun h2 => ?_) (fun h2 => ?_)
  · have h2 := of_decide_eq_true h2
    refine G.seqR tfine rfl trivial ?_
    exact G.ret (endK.ret rfl (by rw [sgnI, if_neg (by omega), if_pos (by omega)]))
  have h2 := of_decide_eq_false h2
  refine G.skip ?_
  refine G.seqR tfine rfl trivial ?_
  exact G.ret (endK.ret rfl (by rw [sgnI, if_neg (by omega), if_neg (by omega)]))
/-! ### The order of three equal rests -/
theorem div1_any (a b : Int) (g : Nat) (R : Option Addr) (rc : Nat) (w : World) (ha : 0 ≤ a ∧ a < 3) (hb : 0 ≤ b ∧ b < 3) (h1 : w.heap[g]? = some (.cells #[.slice R 3 rc] 51 (0, 0))) (h2 : RdRow w R 3 1 (fun _ => [I 1])) (h3 : ∀ k, sb (.slice R 3 rc) k → k ≠ g) :
    Calls Tryz.prog 40 #[I a, I b, Pt g] w fun e w' => e = .returned (I 0) ∧ Below w.heap.size w w' := by
  have hlt := lt_of_heap h1
  refine enterSay [g] [.c (.k (I a)), .c (.k (I b)), .c (.k (Pt g))] [(1000, .var 51 [.k (.slice R 3 rc)]), (801, .say (sb (.slice R 3 rc)) (fun w => RdRow w R 3 1 (fun _ => [I 1])))] Tryz.func40 rfl 15 Tryz.ntmps40 rfl rfl ⟨trivial, trivial, trivial, trivial⟩
    ⟨⟨.head _, [_], ⟨rfl, trivial⟩, h1⟩, ⟨fun _ h => h3 _ h rfl, fun h => h.elim, trivial⟩, ⟨h2, sb_lt h2, steady_row⟩, trivial, trivial⟩ ?_
  refine G.toPtr 2 1000 rfl (.head _) rfl ?_
  refine G.openVar 801 806 1000 0 (A := R) (n := 3) (sz := 1) (el := fun _ => [I 1]) (cap := rc) rfl (fun _ h => h) (fun _ h => h) rfl rfl rfl rfl ?_
  refine G.seqR tfine rfl trivial ?_
  refine G.seqDraw hmix [0, 0, 3, 7, 0, 0, 48, 112, 255, 511] [] rfl rfl rfl ?_
  refine GD.more tfine 0 rfl rfl ?_ ?_
  · simp only [AllP]
    and_intros <;> first | trivial | omega
  refine GD.call (v := I 0) 8 rfl rfl rfl rfl rfl (fun args w => Tryz.call41 args w) (fun m hle ρ w hs hok => cmpi_any 1 1 w) ?_
  refine GD.fin tfine 9 rfl rfl trivial ?_
  refine G.ret ⟨.inl rfl, fun ρ a' w' hs => ⟨_, results_run tfine hs rfl, rfl, ?_⟩⟩
  have h5 := hs.mem.fr
  rw [borT_snd] at h5
  have h6 := (hs.mem.ok 1000 _ rfl)
  refine ⟨h5.os, h5.tape, h5.output, h5.size, fun k hk => ?_⟩
  by_cases e : k = g
  · subst e
    have h7 := h6.2.2.1
    rw [(hs.mem.bo (1000, k) (.head _)).1] at h7
    rw [h1]
    exact h7
  · exact h5.block k hk (by simpa using e)
def clo (g : Nat) : Value := .func (.func 40) #[] #[Pt g]
/-- What the sorting asks of a closure. -/
def Zero3 (g : Nat) (w : World) : Prop := ∀ (a b : Int) (w1 : World), 0 ≤ a ∧ a < 3 → 0 ≤ b ∧ b < 3 → Below w.heap.size w w1 → Calls Tryz.prog 40 #[I a, I b, Pt g] w1 fun e w' => e = .returned (I 0) ∧ Below w1.heap.size w1 w'
theorem insert3_any (g : Nat) (A : Option Addr) (c : Nat) (w : World) (h : RdRow w A 3 1 (fun q => [I (q : Nat)])) (hq : Zero3 g w) :
    Calls Tryz.prog 105 #[.slice A 3 c, I 0, I 3, clo g] w fun e w' => e = .returned (.tuple #[]) ∧ Below w.heap.size w w' := by
  refine enterSay [] [.c (.k (.slice A 3 c)), .c (.k (I 0)), .c (.k (I 3)), .c (.k (clo g))] [(801, .say (sb (.slice A 3 c)) (fun w => RdRow w A 3 1 (fun q => [I (q : Nat)])))] Tryz.func105 rfl 53 Tryz.ntmps105 rfl rfl ⟨trivial, trivial, trivial, trivial, trivial⟩ ⟨⟨h, sb_lt h, steady_row⟩, trivial, trivial⟩ ?_
  refine G.openSay 801 806 0 rfl (fun _ h => h) (fun _ h => h) rfl rfl rfl ?_
  refine G.seqR tfine rfl trivial ?_
  refine G.block (G.loop (fun k : Nat => St.of [(0, .v (.c (.inp 806 A 3 c))), (1, .v (.c (.k (I 0)))), (2, .v (.c (.k (I 3)))), (3, .v (.c (.k (clo g)))), (8, .v (.c (.k (I (k + 1 : Nat)))))]
      [(801, .say (sb (.slice A 3 c)) (fun w => RdRow w A 3 1 (fun q => [I (q : Nat)]))), (806, .ro 1 3 (fun q => [I (q : Nat)]))])
    (fun k => k + 1 ≤ 3) (fun k => 3 - k) 0 (by decide) (St.le_of rfl ⟨⟨_, rfl, Blk.le_refl _⟩, ⟨_, rfl, Blk.le_refl _⟩, trivial⟩ ⟨rfl, rfl, rfl, rfl, rfl, trivial⟩) ?_)
  intro k hk
  refine G.seq ?_
  refine G.seqR tfine rfl trivial ?_
  refine G.cond (b := decide (((k + 1 : Nat) : Int) < 3)) rfl (fun h7 => ?_) (fun h7 => ?_)
  rotate_left
  · exact G.exit ⟨.inr rfl, fun ρ a' w' hs => ⟨_, results_run tfine hs rfl, rfl, hs.mem.fr.toBelow⟩⟩
  have h7 := of_decide_eq_true h7
  refine G.skip ?_
  refine G.seq (G.block ?_)
  refine G.seqR tfine rfl trivial ?_
  refine G.block (G.loop (fun _ : Unit => St.of [(0, .v (.c (.inp 806 A 3 c))), (1, .v (.c (.k (I 0)))), (2, .v (.c (.k (I 3)))), (3, .v (.c (.k (clo g)))), (8, .v (.c (.k (I (k + 1 : Nat))))), (9, .v (.c (.k (I (k + 1 : Nat)))))]
      [(801, .say (sb (.slice A 3 c)) (fun w => RdRow w A 3 1 (fun q => [I (q : Nat)]))), (806, .ro 1 3 (fun q => [I (q : Nat)]))])
    (fun _ => True) (fun _ => 0) () trivial (St.le_of rfl ⟨⟨_, rfl, Blk.le_refl _⟩, ⟨_, rfl, Blk.le_refl _⟩, trivial⟩ ⟨rfl, rfl, rfl, rfl, rfl, rfl, trivial⟩) ?_)
  intro _ _
  have hw1 : IntKind.i64.wrap (((k + 1 : Nat) : Int) - 1) = (k : Int) := by rw [show (((k + 1 : Nat) : Int) - 1) = (k : Int) by omega]; exact IntWalk.i64_in _ (by omega)
  refine G.seq ?_
  refine G.seqDraw hmix [0, 0, 3, 7, 15, 15, 15, 111, 239, 15, 15, 1039, 3599, 7695, 16383, 32767, 65535] [] rfl rfl rfl ?_
  refine GD.more tfine 0 rfl rfl ?_ ?_
  · simp only [AllP, condB, hw1]
    and_intros <;> first | trivial | (intros; omega) | (intros; assumption) | (intros; simp_all; done)
  refine GD.callGuard (I 0) 14 rfl rfl rfl rfl ?_ rfl rfl (fun args w => Tryz.call40 args w) rfl (fun _ m hle ρ w1 hs hok => ?_) ?_
  · first | exact trivial | exact ⟨id, trivial⟩ | exact ⟨id, id, trivial⟩ | exact ⟨id, id, id, trivial⟩
  · have := hq (k + 1 : Nat) (k : Nat) w1 (by omega) (by omega) hs.fr.toBelow
    have e1 : (((k + 1 : Nat) : Int)).toNat = k + 1 := Int.toNat_natCast _
    have e2 : (IntKind.i64.wrap (((k + 1 : Nat) : Int) - 1)).toNat = k := by rw [hw1]; exact Int.toNat_natCast _
    show Calls _ _ #[I ((((k + 1 : Nat) : Int)).toNat : Nat), I ((IntKind.i64.wrap (((k + 1 : Nat) : Int) - 1)).toNat : Nat), Pt g] w1 _
    rw [e1, e2]
    exact this
  refine GD.fin tfine 15 rfl rfl ?_ ?_
  · simp only [AllP, condB]
    and_intros <;> first | trivial | (intros; omega) | (intros; assumption) | (intros; simp_all; done)
  refine G.cond (b := decide (((k + 1 : Nat) : Int) > 0) && decide ((0 : Int) < 0)) rfl (fun h8 => ?_) (fun h8 => ?_)
  · simp at h8
  refine G.exit ?_
  refine G.reg tfine rfl trivial ?_
  refine ⟨k + 1, by omega, (by show 3 - (k + 1) < 3 - k; omega), St.le_of rfl ⟨⟨_, rfl, Blk.le_refl _⟩, ⟨_, rfl, Blk.le_refl _⟩, trivial⟩ ⟨rfl, rfl, rfl, rfl, ?_, trivial⟩⟩
  simp [up, I]; rw [IntWalk.i64_in _ (by omega)]
theorem stable3_any (g : Nat) (A : Option Addr) (c : Nat) (w : World) (h : RdRow w A 3 1 (fun q => [I (q : Nat)])) (hq : Zero3 g w) :
    Calls Tryz.prog 73 #[.slice A 3 c, I 3, clo g] w fun e w' => e = .returned (.tuple #[]) ∧ Below w.heap.size w w' := by
  refine enterSay [] [.c (.k (.slice A 3 c)), .c (.k (I 3)), .c (.k (clo g))] [(801, .say (sb (.slice A 3 c)) (fun w => RdRow w A 3 1 (fun q => [I (q : Nat)])))] Tryz.func73 rfl 63 Tryz.ntmps73 rfl rfl ⟨trivial, trivial, trivial, trivial⟩ ⟨⟨h, sb_lt h, steady_row⟩, trivial, trivial⟩ ?_
  refine G.seqR tfine rfl trivial ?_
  refine G.seqR tfine rfl trivial ?_
  refine G.seq (G.block (G.loop (fun _ : Unit => St.of [(0, .v (.c (.k (.slice A 3 c)))), (1, .v (.c (.k (I 3)))), (2, .v (.c (.k (clo g)))), (6, .v (.c (.k (I 20)))), (7, .v (.c (.k (I 0)))), (8, .v (.c (.k (I 20))))]
      [(801, .say (sb (.slice A 3 c)) (fun w => RdRow w A 3 1 (fun q => [I (q : Nat)])))])
    (fun _ => True) (fun _ => 0) () trivial (St.le_of rfl ⟨⟨_, rfl, Blk.le_refl _⟩, trivial⟩ ⟨rfl, rfl, rfl, rfl, rfl, rfl, trivial⟩) ?_))
  intro _ _
  refine G.seq ?_
  refine G.seqR tfine rfl trivial ?_
  refine G.cond_false rfl ?_
  refine G.exit ?_
  refine G.seqC tfine rfl trivial ?_
  refine GO.callPlain (v := .tuple #[]) rfl rfl rfl rfl (fun args w => Tryz.call105 args w) (fun ρ w1 hs hok => insert3_any g A c w1 (hs.ok 801 _ rfl).1 fun a b w2 ha hb h2 => hq a b w2 ha hb (hs.fr.toBelow.trans (h2.mono hs.fr.size))) ?_
  refine GO.fin tfine rfl trivial ?_
  refine G.block (G.loop (fun _ : Unit => St.of [(1, .v (.c (.k (I 3)))), (6, .v (.c (.k (I 20))))] [])
    (fun _ => True) (fun _ => 0) () trivial (St.le_of rfl trivial ⟨rfl, rfl, trivial⟩) ?_)
  intro _ _
  refine G.seq ?_
  refine G.seqR tfine rfl trivial ?_
  refine G.cond_false rfl ?_
  exact G.exit ⟨.inr rfl, fun ρ a' w' hs => ⟨_, results_run tfine hs rfl, rfl, hs.mem.fr.toBelow⟩⟩
theorem sortStable3_any (g : Nat) (A : Option Addr) (c : Nat) (w : World) (h : RdRow w A 3 1 (fun q => [I (q : Nat)])) (hq : Zero3 g w) :
    Calls Tryz.prog 39 #[.slice A 3 c, clo g] w fun e w' => e = .returned (.tuple #[]) ∧ Below w.heap.size w w' := by
  refine enterSay [] [.c (.k (.slice A 3 c)), .c (.k (clo g))] [(801, .say (sb (.slice A 3 c)) (fun w => RdRow w A 3 1 (fun q => [I (q : Nat)])))] Tryz.func39 rfl 9 Tryz.ntmps39 rfl rfl ⟨trivial, trivial, trivial⟩ ⟨⟨h, sb_lt h, steady_row⟩, trivial, trivial⟩ ?_
  refine G.regC tfine rfl trivial ?_
  refine GO.callPlain (v := .tuple #[]) rfl rfl rfl rfl (fun args w => Tryz.call73 args w) (fun ρ w1 hs hok => stable3_any g A c w1 (hs.ok 801 _ rfl).1 fun a b w2 ha hb h2 => hq a b w2 ha hb (hs.fr.toBelow.trans (h2.mono hs.fr.size))) ?_
  refine GO.fin tfine rfl trivial ?_
  exact ⟨.inr rfl, fun ρ a' w' hs => ⟨_, results_run tfine hs rfl, rfl, hs.mem.fr.toBelow⟩⟩
end Go.Proofs.YtphipfmidfoflaaGreat
/- Top: ten divided in three, the shares. -/
set_option linter.unusedVariables false
set_option linter.unusedSimpArgs false
set_option maxRecDepth 8000
set_option maxHeartbeats 2000000
namespace Go.Proofs.YtphipfmidfoflaaGreat
open Go.Sx Go.RowKit
/-! ### Ten in three -/
theorem weigh3_any (A : Option Addr) (c : Nat) (w : World) (h : RdRow w A 3 1 (fun _ => [I 1])) :
    Calls Tryz.prog 37 #[I 10, .slice A 3 c] w fun e w' => e = .returned (.tuple #[I 3, I 0]) ∧ Below w.heap.size w w' := by
  refine enterPlain tfine Tryz.func37 rfl 41 Tryz.ntmps37 [.c (.k (I 10)), .c (.inp 1000 A 3 c)] [⟨1000, A, 1, 3, fun _ => [I 1]⟩] rfl rfl ⟨h, trivial⟩ ⟨trivial, .inl ⟨rfl, rfl, rfl⟩, trivial⟩ ?_
  refine G.seqR tfine rfl trivial ?_
  refine G.seq (G.block ?_)
  refine G.seqC tfine rfl trivial ?_
  refine GO.callPlain (v := .bool true) rfl rfl rfl rfl (fun args w => Tryz.call69 args w) (fun ρ w _ _ => amount_any 10 w) ?_
  refine GO.fin tfine rfl trivial ?_
  refine G.cond_false rfl ?_
  refine G.seqR tfine rfl trivial ?_
  refine G.cond_false rfl ?_
  refine G.seqR tfine rfl trivial ?_
  refine G.cond_false rfl ?_
  refine G.seqC tfine rfl trivial ?_
  refine GO.callPlain (v := .bool true) rfl rfl rfl rfl (fun args w => Tryz.call70 args w) (fun ρ w hs hok => ?_) ?_
  · have := amounts_any A c [1, 1, 1] w ((hs.row (cap := c) rfl (hok _ List.mem_cons_self)).congr fun i hi => by
      match i, hi with
      | 0, _ => rfl
      | 1, _ => rfl
      | 2, _ => rfl) (by decide)
    exact this
  refine GO.fin tfine rfl trivial ?_
  refine G.cond_false rfl ?_
  refine G.skip ?_
  refine G.seqR tfine rfl trivial ?_
  refine G.seq (G.seqR tfine rfl trivial ?_)
  refine G.block (G.loop (fun k : Nat => St.of [(6, .v (.c (.k (I k)))), (25, .v (.c (.inp 1000 A 3 c))), (26, .v (.c (.k (I 3)))), (27, .v (.c (.k (I k))))] [(1000, .ro 1 3 (fun _ => [I 1]))])
    (fun k => k ≤ 3) (fun k => 3 - k) 0 (by decide) (St.le_of rfl ⟨⟨_, rfl, Blk.le_refl _⟩, trivial⟩ ⟨rfl, rfl, rfl, rfl, trivial⟩) ?_)
  intro k hk
  refine G.seqR tfine rfl trivial ?_
  refine G.seq (G.cond (b := decide ((k : Int) < 3)) rfl (fun h7 => ?_) (fun h7 => ?_))
  · have h7 := of_decide_eq_true h7
    have hw3 : IntKind.i64.wrap ((k : Int) + 1) = ((k + 1 : Nat) : Int) := IntWalk.i64_in _ (by omega)
    refine G.skip ?_
    refine G.seq (G.block ?_)
    refine G.seqR tfine rfl ?_ ?_
    · first | trivial | (simp [AllP, condB]; done) | (simp only [AllP]; and_intros <;> first | trivial | decide | omega) | (simp [AllP, condB]; intros; and_intros <;> first | assumption | omega) | (simp [AllP, condB]; intros; simp_all; done)
    refine G.reg tfine rfl trivial ?_
    refine G.reg tfine rfl trivial ?_
    refine ⟨k + 1, by omega, (by show 3 - (k + 1) < 3 - k; omega), St.le_of rfl ⟨⟨_, rfl, Blk.le_refl _⟩, trivial⟩ ⟨?_, rfl, rfl, ?_, trivial⟩⟩
    · show TV.v (.c (.k (I (IntKind.i64.wrap ((k : Int) + 1))))) = _
      rw [hw3]
    · show TV.v (.c (.k (I (IntKind.i64.wrap ((k : Int) + 1))))) = _
      rw [hw3]
  have h7 := of_decide_eq_false h7
  have : k = 3 := by omega
  subst this
  refine G.exit ?_
  refine G.seq ?_
  refine G.seqC tfine rfl trivial ?_
  refine GO.callPlain (v := .bool true) rfl rfl rfl rfl (fun args w => Tryz.call69 args w) (fun ρ w _ _ => amount_any 3 w) ?_
  refine GO.fin tfine rfl trivial ?_
  refine G.cond_false rfl ?_
  refine G.skip ?_
  refine G.seq ?_
  refine G.seqR tfine rfl trivial ?_
  refine G.cond_false rfl ?_
  refine G.skip ?_
  refine G.seqR tfine rfl trivial ?_
  exact G.ret (endK.ret rfl rfl)
def shV (k q : Nat) : Int := if q < k then 3 else 0
def reV (k q : Nat) : Int := if q < k then 1 else 0
def odV (k q : Nat) : Int := if q < k then (q : Int) else 0
theorem divide_any (A : Option Addr) (c : Nat) (w : World) (h : RdRow w A 3 1 (fun _ => [I 1])) :
    Calls Tryz.prog 19 #[I 10, .slice A 3 c] w fun e w' => RowAns w w' [4, 3, 3] 0 e := by
  refine enterSay [] [.c (.k (I 10)), .c (.k (.slice A 3 c))] [(801, .say (sb (.slice A 3 c)) (fun w => RdRow w A 3 1 (fun _ => [I 1])))] Tryz.func19 rfl 84 Tryz.ntmps19 rfl rfl ⟨trivial, trivial, trivial⟩ ⟨⟨h, sb_lt h, steady_row⟩, trivial, trivial⟩ ?_
  refine G.seqR tfine rfl trivial ?_
  refine G.seqC tfine rfl trivial ?_
  refine GO.callPlain (v := .tuple #[I 3, I 0]) rfl rfl rfl rfl (fun args w => Tryz.call37 args w) (fun ρ w hs hok => weigh3_any A c w (hs.ok 801 _ rfl).1) ?_
  refine GO.fin tfine rfl trivial ?_
  refine G.openSay 801 806 1 rfl (fun _ h => h) (fun _ h => h) rfl rfl rfl ?_
  refine G.seq ?_
  refine G.seqR tfine rfl trivial ?_
  refine G.cond_false rfl ?_
  refine G.skip ?_
  refine G.seqDraw hmix [0, 1, 3, 0, 8, 24, 0, 64, 192, 0, 519, 1599, 4095] [(2, 26), (5, 29), (8, 32), (11, 9)] rfl rfl rfl ?_
  refine GD.more tfine 0 rfl rfl trivial ?_
  refine GD.make1 2 3 rfl apT35 rfl rfl rfl rfl rfl rfl rfl rfl rfl (by decide) (by unfold maxLen; omega) (by omega) rfl ?_
  refine GD.more tfine 3 rfl rfl trivial ?_
  refine GD.make1 5 3 rfl apT35 rfl rfl rfl rfl rfl rfl rfl rfl rfl (by decide) (by unfold maxLen; omega) (by omega) rfl ?_
  refine GD.more tfine 6 rfl rfl trivial ?_
  refine GD.make1 8 3 rfl apT35 rfl rfl rfl rfl rfl rfl rfl rfl rfl (by decide) (by unfold maxLen; omega) (by omega) rfl ?_
  refine GD.fin tfine 9 rfl rfl trivial ?_
  refine G.seqR tfine rfl trivial ?_
  refine G.seq (G.seqR tfine rfl trivial ?_)
  refine G.block (G.loop (fun k : Nat => St.of [(0, .v (.c (.k (I 10)))), (6, .v (.c (.k (I 3)))), (8, .v (.c (.slc 26 0 1 3 3))), (9, .v (.c (.ptr 9 0 0 0))), (10, .v (.c (.slc 32 0 1 3 3))), (11, .v (.c (.k (I (10 - 3 * k))))), (34, .v (.c (.inp 806 A 3 c))), (35, .v (.c (.k (I 3)))), (36, .v (.c (.k (I k))))]
      [(801, .say (sb (.slice A 3 c)) (fun w => RdRow w A 3 1 (fun _ => [I 1]))), (806, .ro 1 3 (fun _ => [I 1])), (9, .var 51 [.slc 29 0 1 3 3]), (26, .arr 3 1 3 (fun q => [I (shV k q)]) 0), (29, .arr 3 1 3 (fun q => [I (reV k q)]) 0), (32, .arr 3 1 3 (fun q => [I (odV k q)]) 0)])
    (fun k => k ≤ 3) (fun k => 3 - k) 0 (by decide) (St.le_of rfl ⟨⟨_, rfl, Blk.le_refl _⟩, ⟨_, rfl, Blk.le_refl _⟩, ⟨_, rfl, Blk.le_refl _⟩, ⟨_, rfl, Blk.le_refl _⟩, ⟨_, rfl, Blk.le_refl _⟩, ⟨_, rfl, Blk.le_refl _⟩, trivial⟩ ⟨rfl, rfl, rfl, rfl, rfl, rfl, rfl, rfl, rfl, trivial⟩) ?_)
  intro k hk
  refine G.seqR tfine rfl trivial ?_
  refine G.seq (G.cond (b := decide ((k : Int) < 3)) rfl (fun h7 => ?_) (fun h7 => ?_))
  · have h7 := of_decide_eq_true h7
    have hw3 : IntKind.i64.wrap ((k : Int) + 1) = ((k + 1 : Nat) : Int) := IntWalk.i64_in _ (by omega)
    refine G.skip ?_
    refine G.seq (G.block ?_)
    refine G.seqR tfine rfl ?_ ?_
    · first | trivial | (simp [AllP, condB]; done) | (simp only [AllP]; and_intros <;> first | trivial | decide | omega) | (simp [AllP, condB]; intros; and_intros <;> first | assumption | omega) | (simp [AllP, condB]; intros; simp_all; done)
    refine G.seqDraw hmix [0, 0, 0, 0, 0, 0, 0, 112, 240, 496, 496, 496, 1011, 5107, 14335, 30719] [(13, 26), (15, 29)] rfl rfl rfl ?_
    refine GD.more tfine 0 rfl rfl trivial ?_
    refine GD.call (v := .tuple #[I 3, I 1, .bool true]) 7 rfl rfl rfl rfl rfl (fun args w => Tryz.call38 args w) (fun m hle ρ w hs hok => divided_any 10 1 3 (by decide) (by decide) (by decide) w) ?_
    refine GD.fin tfine 8 rfl rfl ?_ ?_
    · simp only [AllP, Int.toNat_natCast, Nat.zero_add]
      and_intros <;> first | trivial | omega
    refine G.weaken (st' := St.of [(0, .v (.c (.k (I 10)))), (6, .v (.c (.k (I 3)))), (8, .v (.c (.slc 26 0 1 3 3))), (9, .v (.c (.ptr 9 0 0 0))), (10, .v (.c (.slc 32 0 1 3 3))), (11, .v (.c (.k (I (10 - 3 * k))))), (12, .v (.c (.k (I k)))), (34, .v (.c (.inp 806 A 3 c))), (35, .v (.c (.k (I 3)))), (36, .v (.c (.k (I k))))]
        [(801, .say (sb (.slice A 3 c)) (fun w => RdRow w A 3 1 (fun _ => [I 1]))), (806, .ro 1 3 (fun _ => [I 1])), (9, .var 51 [.slc 29 0 1 3 3]), (26, .arr 3 1 3 (fun q => [I (shV (k + 1) q)]) 0), (29, .arr 3 1 3 (fun q => [I (reV (k + 1) q)]) 0), (32, .arr 3 1 3 (fun q => [I (odV k q)]) 0)])
      (St.le_of rfl ⟨⟨_, rfl, Blk.le_refl _⟩, ⟨_, rfl, Blk.le_refl _⟩, ⟨_, rfl, Blk.le_refl _⟩, ⟨_, rfl, rfl, rfl, Nat.le_refl _, fun j hj => ?_, Nat.le_refl _⟩, ⟨_, rfl, rfl, rfl, Nat.le_refl _, fun j hj => ?_, Nat.le_refl _⟩, ⟨_, rfl, Blk.le_refl _⟩, trivial⟩ ⟨rfl, rfl, rfl, rfl, rfl, rfl, rfl, rfl, rfl, rfl, trivial⟩) ?_
    · show [I (shV (k + 1) j)] = (bif Nat.beq j (0 + ((k : Nat) : Int).toNat) then [I 3] else [I (shV k j)])
      rw [Int.toNat_natCast, Nat.zero_add]
      unfold shV
      by_cases e : j = k
      · subst e; simp
      · rw [show Nat.beq j k = false from Bool.eq_false_iff.2 fun h => e (Nat.eq_of_beq_eq_true h)]
        by_cases e2 : j < k
        · rw [if_pos e2, if_pos (by omega)]; rfl
        · rw [if_neg e2, if_neg (by omega)]; rfl
    · show [I (reV (k + 1) j)] = (bif Nat.beq j (0 + ((k : Nat) : Int).toNat) then [I 1] else [I (reV k j)])
      rw [Int.toNat_natCast, Nat.zero_add]
      unfold reV
      by_cases e : j = k
      · subst e; simp
      · rw [show Nat.beq j k = false from Bool.eq_false_iff.2 fun h => e (Nat.eq_of_beq_eq_true h)]
        by_cases e2 : j < k
        · rw [if_pos e2, if_pos (by omega)]; rfl
        · rw [if_neg e2, if_neg (by omega)]; rfl
    refine G.seqR tfine rfl ?_ ?_
    · simp only [AllP, Int.toNat_natCast, Nat.zero_add]
      and_intros <;> first | trivial | omega
    refine G.reg tfine rfl ?_ ?_
    · simp only [AllP, Int.toNat_natCast, Nat.zero_add]
      and_intros <;> first | trivial | omega
    refine G.reg tfine rfl trivial ?_
    refine ⟨k + 1, by omega, (by show 3 - (k + 1) < 3 - k; omega), St.le_of rfl ⟨⟨_, rfl, Blk.le_refl _⟩, ⟨_, rfl, Blk.le_refl _⟩, ⟨_, rfl, Blk.le_refl _⟩, ⟨_, rfl, Blk.le_refl _⟩, ⟨_, rfl, Blk.le_refl _⟩, ⟨_, rfl, rfl, rfl, Nat.le_refl _, fun j hj => ?_, Nat.le_refl _⟩, trivial⟩ ⟨rfl, rfl, rfl, rfl, rfl, ?_, rfl, rfl, ?_, trivial⟩⟩
    · show [I (odV (k + 1) j)] = (bif Nat.beq j (0 + ((k : Nat) : Int).toNat) then [I k] else [I (odV k j)])
      rw [Int.toNat_natCast, Nat.zero_add]
      unfold odV
      by_cases e : j = k
      · subst e; simp
      · rw [show Nat.beq j k = false from Bool.eq_false_iff.2 fun h => e (Nat.eq_of_beq_eq_true h)]
        by_cases e2 : j < k
        · rw [if_pos e2, if_pos (by omega)]; rfl
        · rw [if_neg e2, if_neg (by omega)]; rfl
    · show TV.v (.c (.k (I (IntKind.i64.wrap ((10 - 3 * (k : Int)) - shV (k + 1) (0 + ((k : Nat) : Int).toNat)))))) = _
      rw [Int.toNat_natCast, Nat.zero_add, show shV (k + 1) k = 3 by simp [shV], IntWalk.i64_in _ (by omega)]
      rw [show (10 - 3 * (k : Int)) - 3 = 10 - 3 * ((k + 1 : Nat) : Int) by omega]
    · show TV.v (.c (.k (I (IntKind.i64.wrap ((k : Int) + 1))))) = _
      rw [hw3]
  have h7 := of_decide_eq_false h7
  have : k = 3 := by omega
  subst this
  refine G.exit ?_
  refine G.seqC tfine rfl trivial ?_
  refine GO.callPlain (v := .tuple #[]) rfl rfl rfl rfl (fun args w => Tryz.call39 args w) (fun ρ w1 hs hok => ?_) ?_
  · have k9 := hs.ok 9 (.var 51 [.slc 29 0 1 3 3]) rfl
    have k29 := hs.ok 29 (.arr 3 1 3 (fun q => [I (reV 3 q)]) 0) rfl
    have hne := hs.ne 29 9 (.arr 3 1 3 (fun q => [I (reV 3 q)]) 0) (.var 51 [.slc 29 0 1 3 3]) rfl rfl trivial trivial (by decide)
    have hne : (ρ 29).1 ≠ (ρ 9).1 := hne
    have hrow := hs.rdArr (x := 32) (sz := 1) (n := 3) (ty := 3) (el := fun q => [I (odV 3 q)]) (room := 0) rfl 0 3 (Nat.le_refl _)
    have hre := hs.rdArr (x := 29) (sz := 1) (n := 3) (ty := 3) (el := fun q => [I (reV 3 q)]) (room := 0) rfl 0 3 (Nat.le_refl _)
    have z9 := k9.2.2.1
    have := sortStable3_any (ρ 9).1 (some ⟨(ρ 32).1, (ρ 32).2 + 0 * 1, none⟩) 3 w1 (hrow.congr fun q hq => by simp [odV, hq]) (fun a b w2 ha hb h2 => by
      refine div1_any a b (ρ 9).1 (some ⟨(ρ 29).1, (ρ 29).2 + 0 * 1, none⟩) 3 w2 ha hb ?_ ?_ ?_
      · rw [h2.block _ (lt_of_heap z9)]
        exact z9
      · refine (hre.below h2).congr fun q hq => by simp [reV, hq]
      · rintro j ⟨_, a', e, rfl⟩
        injection e with e
        rw [← e]
        exact hne)
    have e : ([AV.c (.slc 32 0 1 3 3), .c (.fn 40 [.own 9 0])].map (AV.conc ρ) ++ [].map (Cap.conc ρ)).toArray = #[.slice (some ⟨(ρ 32).1, (ρ 32).2 + 0 * 1, none⟩) 3 3, clo (ρ 9).1] := by
      simp [AV.conc, AC.conc, Cap.conc, k9.1, clo, Pt]
    exact e ▸ this
  refine GO.fin tfine rfl trivial ?_
  refine G.seq (G.seqR tfine rfl trivial ?_)
  refine G.block (G.loop (fun k : Nat => St.of [(8, .v (.c (.slc 26 0 1 3 3))), (10, .v (.c (.slc 32 0 1 3 3))), (69, .v (.c (.k (I 1)))), (70, .v (.c (.k (I k))))]
      [(26, .arr 3 1 3 (fun q => [I (shV 3 q + if q < k then 1 else 0)]) 0), (32, .arr 3 1 3 (fun q => [I (odV 3 q)]) 0)])
    (fun k => k ≤ 1) (fun k => 1 - k) 0 (by decide) (St.le_of rfl ⟨⟨_, rfl, rfl, rfl, Nat.le_refl _, fun j hj => by simp, Nat.le_refl _⟩, ⟨_, rfl, Blk.le_refl _⟩, trivial⟩ ⟨rfl, rfl, rfl, rfl, trivial⟩) ?_)
  intro k hk
  refine G.seqR tfine rfl trivial ?_
  refine G.seq (G.cond (b := decide ((k : Int) < 1)) rfl (fun h7 => ?_) (fun h7 => ?_))
  · have h7 := of_decide_eq_true h7
    have : k = 0 := by omega
    subst this
    refine G.skip ?_
    refine G.seq (G.block ?_)
    refine G.seqR tfine rfl trivial ?_
    refine G.reg tfine rfl ?_ ?_
    · simp only [AllP]
      and_intros <;> first | trivial | decide
    refine G.reg tfine rfl trivial ?_
    refine ⟨1, by decide, by decide, St.le_of rfl ⟨⟨_, rfl, rfl, rfl, Nat.le_refl _, fun j hj => ?_, Nat.le_refl _⟩, ⟨_, rfl, Blk.le_refl _⟩, trivial⟩ ⟨rfl, rfl, rfl, rfl, trivial⟩⟩
    match j, hj with
    | 0, _ => rfl
    | 1, _ => rfl
    | 2, _ => rfl
  have h7 := of_decide_eq_false h7
  have : k = 1 := by omega
  subst this
  refine G.exit ?_
  refine G.weaken (st' := St.of [(8, .v (.c (.slc 26 0 1 3 3)))] [(26, .arr 3 1 3 (elI [4, 3, 3]) 0)]) (St.le_of rfl ⟨⟨_, rfl, rfl, rfl, Nat.le_refl _, fun j hj => ?_, Nat.le_refl _⟩, trivial⟩ ⟨rfl, trivial⟩) ?_
  · match j, hj with
    | 0, _ => rfl
    | 1, _ => rfl
    | 2, _ => rfl
  refine G.freezeArr 26 8 rfl rfl (Nat.le_refl _) fun g hg => ?_
  refine G.seqR tfine rfl trivial ?_
  exact G.ret (retRow (o := [4, 3, 3]) tfine 26 rfl hg rfl)
end Go.Proofs.YtphipfmidfoflaaGreat
/- Top: rods. -/
set_option linter.unusedVariables false
set_option linter.unusedSimpArgs false
set_option maxRecDepth 8000
set_option maxHeartbeats 2000000
namespace Go.Proofs.YtphipfmidfoflaaGreat
open Go.Sx Go.RowKit
/-! ### A table of two marks -/
def tb : List (Int × Int) := [(0, 0), (10, 100)]
theorem read10_any (A : Option Addr) (c : Nat) (h : Int) (w : World) (hl : RdRow w A 2 2 (elM tb)) (hh : 0 ≤ h ∧ h ≤ 10) :
    Calls Tryz.prog 80 #[.agg #[.slice A 2 c, I 0], I h] w fun e w' => e = .returned (I (10 * h)) ∧ Below w.heap.size w w' := by
  refine enterPlain tfine Tryz.func80 rfl 48 Tryz.ntmps80 [.agg [.inp 1000 A 2 c, .k (I 0)], .c (.k (I h))] [⟨1000, A, 2, 2, elM tb⟩] rfl rfl ⟨hl, trivial⟩ ⟨⟨.inl ⟨rfl, rfl, rfl⟩, trivial, trivial⟩, trivial, trivial⟩ ?_
  refine G.seqR tfine rfl trivial ?_
  refine G.seqR tfine rfl trivial ?_
  refine G.seq (G.block (G.loop (fun _ : Unit => St.of [(1, .v (.c (.k (I h)))), (2, .v (.c (.ptr 2 0 0 0))), (5, .v (.c (.k (I 1))))] [(2, .var 47 [.inp 1000 A 2 c, .k (I 0)]), (1000, .ro 2 2 (elM tb))])
    (fun _ => True) (fun _ => 0) () trivial
    (St.le_of rfl ⟨⟨_, rfl, Blk.le_refl _⟩, ⟨_, rfl, Blk.le_refl _⟩, trivial⟩ ⟨rfl, rfl, rfl, trivial⟩) ?_))
  intro _ _
  refine G.seq (G.seqR tfine rfl ?_ ?_)
  · simp only [AllP]
    and_intros <;> first | trivial | decide
  refine G.cond (b := decide ((10 : Int) < h)) rfl (fun h6 => ?_) (fun h6 => ?_)
  · have h6 := of_decide_eq_true h6
    omega
  refine G.exit ?_
  refine G.seqD tfine hmix [0, 1, 0, 4, 15, 31, 0, 64, 0, 448, 960, 0, 0, 6207, 16383] [(13, 6), (14, 7)] rfl rfl rfl rfl ?_ ?_
  · simp only [AllP]
    and_intros <;> first | trivial | decide
  refine G.seqD tfine hmix [0, 1, 0, 4, 0, 16, 60, 0, 0, 256, 896, 2044, 0, 4096, 0, 16384, 61440, 131068, 262143, 524287] [] rfl rfl rfl rfl ?_ ?_
  · simp only [AllP]
    and_intros <;> first | trivial | decide
  refine G.ret (endK.ret rfl ?_)
  have h1 : h = 0 ∨ h = 1 ∨ h = 2 ∨ h = 3 ∨ h = 4 ∨ h = 5 ∨ h = 6 ∨ h = 7 ∨ h = 8 ∨ h = 9 ∨ h = 10 := by omega
  rcases h1 with rfl | rfl | rfl | rfl | rfl | rfl | rfl | rfl | rfl | rfl | rfl <;> rfl
theorem readR_any (A : Option Addr) (c : Nat) (h : Int) (w : World) (hl : RdRow w A 2 2 (elM tb)) (hh : 0 ≤ h ∧ h ≤ 10) :
    Calls Tryz.prog 44 #[.agg #[.slice A 2 c, I 0], I h] w fun e w' => e = .returned (.tuple #[I (10 * h), I 0]) ∧ Below w.heap.size w w' := by
  refine enterPlain tfine Tryz.func44 rfl 32 Tryz.ntmps44 [.agg [.inp 1000 A 2 c, .k (I 0)], .c (.k (I h))] [⟨1000, A, 2, 2, elM tb⟩] rfl rfl ⟨hl, trivial⟩ ⟨⟨.inl ⟨rfl, rfl, rfl⟩, trivial, trivial⟩, trivial, trivial⟩ ?_
  refine G.seqR tfine rfl trivial ?_
  refine G.seq (G.seqC tfine rfl trivial ?_)
  refine GO.callPlain (v := I 0) rfl rfl rfl rfl (fun args w => Tryz.call42 args w) (fun ρ w hs hok => dipCheck_any A c tb 0 w (hs.row (cap := c) rfl (hok _ List.mem_cons_self _ List.mem_cons_self)) (by decide)) ?_
  refine GO.fin tfine rfl trivial ?_
  refine G.cond_false rfl ?_
  refine G.skip ?_
  refine G.seq (G.seqR tfine rfl ?_ ?_)
  · simp [AllP, condB, tb]
    and_intros <;> (intro _; decide)
  refine G.cond (b := (decide (h < 0)) || (decide (h > 10))) rfl (fun h6 => ?_) (fun h6 => ?_)
  · simp at h6
    omega
  refine G.skip ?_
  refine G.seqC tfine rfl trivial ?_
  refine GO.callPlain (v := I (10 * h)) rfl rfl rfl rfl (fun args w => Tryz.call80 args w) (fun ρ w hs hok => read10_any A c h w (hs.row (cap := c) rfl (hok _ List.mem_cons_self _ List.mem_cons_self)) hh) ?_
  refine GO.fin tfine rfl trivial ?_
  exact G.ret (endK.ret rfl rfl)
/-! ### The least height -/
def mid (i j : Nat) : Int := IntKind.i64.wrap ((IntKind.u64.wrap (IntKind.i64.wrap ((i : Int) + (j : Int)))).fdiv (2 ^ min (Int.toNat 1) IntKind.u64.bits))
theorem mid_eq (i j : Nat) (h : i + j ≤ 1000000) : mid i j = ((i + j) / 2 : Nat) := by
  unfold mid
  have e0 : (i : Int) + j = ((i + j : Nat) : Int) := by omega
  have e1 : IntKind.i64.wrap ((i + j : Nat) : Int) = ((i + j : Nat) : Int) := IntWalk.i64_in _ (by omega)
  have e2 : (2 : Int) ^ min (Int.toNat 1) IntKind.u64.bits = 2 := by decide
  have e3 : Int.fdiv ((i + j : Nat) : Int) 2 = ((i + j) / 2 : Nat) := by rw [Int.fdiv_eq_ediv_of_nonneg _ (by decide)]; omega
  rw [e0, e1, wrapU _ (by omega), e2, e3]
  exact IntWalk.i64_in _ (by omega)
def srch (q : Nat → Bool) : Nat → Nat → Nat → Nat
  | 0, i, _ => i
  | f + 1, i, j => if i < j then (if q ((i + j) / 2) = true then srch q f i ((i + j) / 2) else srch q f ((i + j) / 2 + 1) j) else i
theorem search_any (n : Nat) (q : Nat → Bool) (p1 p2 p3 : Value) (w : World) (hn : n ≤ 100000)
    (hq : ∀ (i : Nat) (w1 : World), i < n → Below w.heap.size w w1 → Calls Tryz.prog 79 #[I i, p1, p2, p3] w1 fun e w' => e = .returned (.bool (q i)) ∧ Below w1.heap.size w1 w') :
    Calls Tryz.prog 78 #[I n, .func (.func 79) #[] #[p1, p2, p3]] w fun e w' => e = .returned (I (srch q n 0 n)) ∧ Below w.heap.size w w' := by
  refine enterPlain tfine Tryz.func78 rfl 26 Tryz.ntmps78 [.c (.k (I n)), .c (.k (.func (.func 79) #[] #[p1, p2, p3]))] [] rfl rfl trivial ⟨trivial, trivial, trivial⟩ ?_
  refine G.seqR tfine rfl trivial ?_
  refine G.seqR tfine rfl trivial ?_
  refine G.seq (G.block (G.loop (fun z : Nat × Nat × Nat => St.of [(1, .v (.c (.k (.func (.func 79) #[] #[p1, p2, p3])))), (5, .v (.c (.k (I z.1)))), (6, .v (.c (.k (I z.2.1))))] [])
    (fun z => z.1 ≤ z.2.1 ∧ z.2.1 ≤ n ∧ z.2.1 - z.1 ≤ z.2.2 ∧ srch q n 0 n = srch q z.2.2 z.1 z.2.1) (fun z => z.2.1 - z.1) (0, n, n) ⟨Nat.zero_le _, Nat.le_refl _, Nat.le_refl _, rfl⟩ (St.le_of rfl trivial ⟨rfl, rfl, rfl, trivial⟩) ?_))
  rintro ⟨i, j, f⟩ ⟨h1, h2, h3, h4⟩
  simp only at h1 h2 h3 h4
  refine G.seq ?_
  refine G.seqR tfine rfl trivial ?_
  refine G.cond (b := decide ((i : Int) < (j : Int))) rfl (fun h7 => ?_) (fun h7 => ?_)
  rotate_left
  · have h7 := of_decide_eq_false h7
    refine G.exit ?_
    refine G.seqR tfine rfl trivial ?_
    refine G.ret (endK.ret rfl ?_)
    rw [h4]
    cases f with
    | zero => rfl
    | succ f => rw [srch, if_neg (by omega)]
  have h7 := of_decide_eq_true h7
  have hlt : i < j := by omega
  obtain ⟨f, rfl⟩ : ∃ g, f = g + 1 := ⟨f - 1, by omega⟩
  rw [srch, if_pos hlt] at h4
  refine G.skip ?_
  refine G.block ?_
  refine G.seqR tfine rfl ⟨by decide, trivial⟩ ?_
  refine G.weaken (st' := St.of [(1, .v (.c (.k (.func (.func 79) #[] #[p1, p2, p3])))), (5, .v (.c (.k (I i)))), (6, .v (.c (.k (I j)))), (7, .v (.c (.k (I ((i + j) / 2 : Nat)))))] []) (St.le_of rfl trivial ⟨rfl, rfl, rfl, ?_, trivial⟩) ?_
  · show TV.v (.c (.k (I (mid i j)))) = _
    rw [mid_eq i j (by omega)]
  refine G.seqC tfine rfl trivial ?_
  refine GO.callPlain (v := .bool (q ((i + j) / 2))) rfl rfl rfl rfl (fun args w => Tryz.call79 args w) (fun ρ w1 hs hok => hq ((i + j) / 2) w1 (by omega) hs.fr.toBelow) ?_
  refine GO.fin tfine rfl trivial ?_
  refine G.cond (b := !(q ((i + j) / 2))) rfl (fun h8 => ?_) (fun h8 => ?_)
  · rw [if_neg (by simpa using h8)] at h4
    refine G.reg tfine rfl trivial ?_
    refine ⟨((i + j) / 2 + 1, j, f), ⟨by simp only; omega, h2, by simp only; omega, h4⟩, (by show j - ((i + j) / 2 + 1) < j - i; omega), St.le_of rfl trivial ⟨rfl, ?_, rfl, trivial⟩⟩
    show TV.v (.c (.k (I (IntKind.i64.wrap ((((i + j) / 2 : Nat) : Int) + 1))))) = _
    rw [IntWalk.i64_in _ (by omega)]
    rfl
  · rw [if_pos (by simpa using h8)] at h4
    refine G.reg tfine rfl trivial ?_
    exact ⟨(i, (i + j) / 2, f), ⟨by simp only; omega, by simp only; omega, by simp only; omega, h4⟩, (by show (i + j) / 2 - i < j - i; omega), St.le_of rfl trivial ⟨rfl, rfl, rfl, trivial⟩⟩
theorem least1_any (i tg : Int) (g1 g2 g3 : Nat) (A : Option Addr) (c : Nat) (w : World) (hi : 0 ≤ i ∧ i ≤ 10) (h : RdRow w A 2 2 (elM tb)) (h1 : w.heap[g1]? = some (.cells #[.slice A 2 c, I 0] 47 (0, 0))) (h2 : w.heap[g2]? = some (.cells #[I 0] 3 (0, 0))) (h3 : w.heap[g3]? = some (.cells #[I tg] 3 (0, 0))) :
    Calls Tryz.prog 79 #[I i, Pt g1, Pt g2, Pt g3] w fun e w' => e = .returned (.bool (decide (10 * i ≥ tg))) ∧ Below w.heap.size w w' := by
  refine enterOld [.c (.k (I i)), .c (.k (Pt g1)), .c (.k (Pt g2)), .c (.k (Pt g3))] Tryz.func79 rfl 19 Tryz.ntmps79 rfl rfl ⟨trivial, trivial, trivial, trivial, trivial⟩ ?_
  refine G.openPtr (b := g1) (ty := 47) (cs := [.slice A 2 c, I 0]) 1 701 1 rfl (fun w' ha => heap_asOf h1 ha) (lt_of_heap h1) rfl rfl rfl ?_
  refine G.openPtr (b := g2) (ty := 3) (cs := [I 0]) 1 702 2 rfl (fun w' ha => heap_asOf h2 ha) (lt_of_heap h2) rfl rfl rfl ?_
  refine G.openPtr (b := g3) (ty := 3) (cs := [I tg]) 1 703 3 rfl (fun w' ha => heap_asOf h3 ha) (lt_of_heap h3) rfl rfl rfl ?_
  refine G.seqR tfine rfl trivial ?_
  refine G.seqC tfine rfl ?_ ?_
  · simp only [AllP]
    and_intros <;> first | trivial | decide
  refine GO.callPlain (v := .tuple #[I (10 * i), I 0]) rfl rfl rfl rfl (fun args w => Tryz.call44 args w) (fun ρ w1 hs hok => ?_) ?_
  · have := readR_any A c i w1 (h.below hs.fr.toBelow) hi
    show Calls _ _ #[_, I (IntKind.i64.wrap (0 + i))] w1 _
    rw [IntWalk.i64_in _ (by omega), Int.zero_add]
    exact this
  refine GO.fin tfine rfl trivial ?_
  refine G.seqR tfine rfl ?_ ?_
  · simp only [AllP]
    and_intros <;> first | trivial | decide
  exact G.ret (retK.plain tfine rfl rfl)
def leastQ (tg : Int) (i : Nat) : Bool := decide (10 * (i : Int) ≥ tg)
def leastM (tg : Int) : Int := IntKind.i64.wrap (0 + (srch (leastQ tg) 10 0 10 : Nat))
theorem least_any (tg : Int) (A : Option Addr) (c : Nat) (w : World) (h : RdRow w A 2 2 (elM tb)) :
    Calls Tryz.prog 43 #[.agg #[.slice A 2 c, I 0], I tg] w fun e w' => e = .returned (I (leastM tg)) ∧ Below w.heap.size w w' := by
  refine enterPlain tfine Tryz.func43 rfl 28 Tryz.ntmps43 [.agg [.inp 1000 A 2 c, .k (I 0)], .c (.k (I tg))] [⟨1000, A, 2, 2, elM tb⟩] rfl rfl ⟨h, trivial⟩ ⟨⟨.inl ⟨rfl, rfl, rfl⟩, trivial, trivial⟩, trivial, trivial⟩ ?_
  refine G.seqR tfine rfl trivial ?_
  refine G.seqD tfine hmix [0, 1, 3, 7, 15, 0, 32, 0, 128, 384, 896, 2016, 4064, 8160, 0, 16415, 65535] [(15, 5)] rfl rfl rfl rfl ?_ ?_
  · simp only [AllP]
    and_intros <;> first | trivial | decide
  refine G.seqDraw hmix [0, 0, 0, 6, 0, 30, 63, 127] [] rfl rfl rfl ?_
  refine GD.more tfine 0 rfl rfl ?_ ?_
  · simp only [AllP]
  refine GD.call (v := I (srch (leastQ tg) 10 0 10 : Nat)) 5 rfl rfl rfl rfl rfl (fun args w => Tryz.call78 args w) (fun m hle ρ w1 hs hok => ?_) ?_
  · have k2 := hs.ok 2 (.var 47 [.inp 1000 A 2 c, .k (I 0)]) (LeM.at hle rfl)
    have k5 := hs.ok 5 (.var 3 [.k (I 0)]) (LeM.at hle rfl)
    have k3 := hs.ok 3 (.var 3 [.k (I tg)]) (LeM.at hle rfl)
    have z2 : w1.heap[(ρ 2).1]? = some (.cells #[.slice A 2 c, I 0] 47 (0, 0)) := k2.2.2.1
    have z5 : w1.heap[(ρ 5).1]? = some (.cells #[I 0] 3 (0, 0)) := k5.2.2.1
    have z3 : w1.heap[(ρ 3).1]? = some (.cells #[I tg] 3 (0, 0)) := k3.2.2.1
    have := search_any 10 (leastQ tg) (Pt (ρ 2).1) (Pt (ρ 5).1) (Pt (ρ 3).1) w1 (by decide) fun i w2 hi h2 => least1_any i tg (ρ 2).1 (ρ 5).1 (ρ 3).1 A c w2 (by omega) ((h.below hs.fr.toBelow).below h2) (by rw [h2.block _ (lt_of_heap z2)]; exact z2) (by rw [h2.block _ (lt_of_heap z5)]; exact z5) (by rw [h2.block _ (lt_of_heap z3)]; exact z3)
    have e : ([AV.c (.k (I 10)), .c (.fn 79 [.own 2 0, .own 5 0, .own 3 0])].map (AV.conc ρ) ++ [].map (Cap.conc ρ)).toArray = #[I (10 : Nat), .func (.func 79) #[] #[Pt (ρ 2).1, Pt (ρ 5).1, Pt (ρ 3).1]] := by
      simp [AV.conc, AC.conc, Cap.conc, k2.1, k5.1, k3.1, Pt]
    exact e ▸ this
  refine GD.fin tfine 6 rfl rfl trivial ?_
  exact G.ret (endK.ret rfl rfl)
theorem least_eq (k : Nat) (hk : k < 3) : leastM (30 * ((k + 1 : Nat) : Int)) = 3 * ((k + 1 : Nat) : Int) := by
  have : k = 0 ∨ k = 1 ∨ k = 2 := by omega
  rcases this with rfl | rfl | rfl <;> rfl
theorem lenE (k : Nat) (hk : k < 3) : IntKind.i64.wrap (IntKind.i64.wrap ((10 * (3 * ((k + 1 : Nat) : Int))).tdiv 30) * 30) = 30 * ((k + 1 : Nat) : Int) := by
  have : k = 0 ∨ k = 1 ∨ k = 2 := by omega
  rcases this with rfl | rfl | rfl <;> rfl
theorem make_any (A : Option Addr) (c : Nat) (w : World) (h : RdRow w A 2 2 (elM tb)) :
    Calls Tryz.prog 20 #[.agg #[.slice A 2 c, I 0], I 30] w fun e w' => (∃ u : Option Addr × Nat, e = .returned (.tuple #[.slice u.1 3 u.2, I 0])) ∧ Below w.heap.size w w' := by
  refine enterSay [] [.agg [.k (.slice A 2 c), .k (I 0)], .c (.k (I 30))] [(801, .say (sb (.slice A 2 c)) (fun w => RdRow w A 2 2 (elM tb)))] Tryz.func20 rfl 64 Tryz.ntmps20 rfl rfl ⟨⟨trivial, trivial, trivial⟩, trivial, trivial⟩ ⟨⟨h, sb_lt h, steady_row⟩, trivial, trivial⟩ ?_
  refine G.seqR tfine rfl trivial ?_
  refine G.seq ?_
  refine G.seqC tfine rfl trivial ?_
  refine GO.callPlain (v := I 0) rfl rfl rfl rfl (fun args w => Tryz.call42 args w) (fun ρ w hs hok => dipCheck_any A c tb 0 w (hs.ok 801 _ rfl).1 (by decide)) ?_
  refine GO.fin tfine rfl trivial ?_
  refine G.cond_false rfl ?_
  refine G.skip ?_
  refine G.seq ?_
  refine G.seqR tfine rfl ?_ ?_
  · first | trivial | (simp [AllP, condB]; done) | (simp only [AllP]; and_intros <;> first | trivial | decide | omega) | (simp [AllP, condB]; intros; and_intros <;> first | assumption | omega) | (simp [AllP, condB]; intros; simp_all; done)
  refine G.cond_false rfl ?_
  refine G.skip ?_
  refine G.seqR tfine rfl trivial ?_
  refine G.openVar 801 806 2 0 (A := A) (n := 2) (sz := 2) (el := elM tb) (cap := c) rfl (fun _ h => h) (fun _ h => h) rfl rfl rfl rfl ?_
  refine G.seqR tfine rfl ?_ ?_
  · simp only [AllP]
    and_intros <;> first | trivial | decide
  refine G.seq (G.seqR tfine rfl trivial ?_)
  refine G.newNil 53 2 (elP []) rfl ?_
  refine G.block (G.loop (fun z : Nat × Nat × List (Int × Int) => St.of [(1, .v (.c (.k (I 30)))), (2, .v (.c (.ptr 2 0 0 0))), (6, .v (.c (accV 53 2 z.1 z.2.1))), (7, .v (.c (.k (I 100)))), (8, .v (.c (.k (I (30 * ((z.1 + 1 : Nat) : Int))))))]
      [(801, .say (sb (.slice A 2 c)) (fun w => RdRow w A 2 2 (elM tb))), (806, .ro 2 2 (elM tb)), (2, .var 47 [.inp 806 A 2 c, .k (I 0)]), (53, accB 58 2 z.1 z.2.1 (elP z.2.2))])
    (fun z => z.1 ≤ 3 ∧ z.1 ≤ z.2.1 ∧ z.2.2.length = z.1) (fun z => 3 - z.1) (0, 0, []) ⟨by decide, Nat.le_refl _, rfl⟩ (St.le_of rfl ⟨⟨_, rfl, Blk.le_refl _⟩, ⟨_, rfl, Blk.le_refl _⟩, ⟨_, rfl, Blk.le_refl _⟩, ⟨_, rfl, Blk.le_refl _⟩, trivial⟩ ⟨rfl, rfl, rfl, rfl, rfl, trivial⟩) ?_)
  rintro ⟨k, cp, ms⟩ ⟨hk, hcp, hms⟩
  simp only at hk hcp hms
  refine G.seq ?_
  refine G.seqR tfine rfl trivial ?_
  refine G.cond (b := decide (30 * ((k + 1 : Nat) : Int) ≤ 100)) rfl (fun h7 => ?_) (fun h7 => ?_)
  rotate_left
  · have h7 := of_decide_eq_false h7
    have : k = 3 := by omega
    subst this
    refine G.exit ?_
    refine G.freezeArr 53 6 rfl rfl (Nat.le_refl _) fun g hg => ?_
    refine G.seq ?_
    refine G.seqR tfine rfl trivial ?_
    refine G.cond_false rfl ?_
    refine G.skip ?_
    refine G.seqR tfine rfl trivial ?_
    exact G.ret ⟨.inl rfl, fun ρ a w' hs => ⟨_, results_run tfine hs rfl, ⟨(some ⟨g, 0, none⟩, cp), rfl⟩, hs.mem.fr.toBelow⟩⟩
  have h7 := of_decide_eq_true h7
  have hlt : k < 3 := by omega
  refine G.skip ?_
  refine G.block ?_
  refine G.seqC tfine rfl trivial ?_
  refine GO.callPlain (v := I (3 * ((k + 1 : Nat) : Int))) rfl rfl rfl rfl (fun args w => Tryz.call43 args w) (fun ρ w hs hok => ?_) ?_
  · rw [← least_eq k hlt]
    exact least_any (30 * ((k + 1 : Nat) : Int)) A c w (hs.ok 801 _ rfl).1
  refine GO.fin tfine rfl trivial ?_
  refine G.seqC tfine rfl trivial ?_
  refine GO.callPlain (v := .tuple #[I (10 * (3 * ((k + 1 : Nat) : Int))), I 0]) rfl rfl rfl rfl (fun args w => Tryz.call44 args w) (fun ρ w hs hok => readR_any A c (3 * ((k + 1 : Nat) : Int)) w (hs.ok 801 _ rfl).1 (by omega)) ?_
  refine GO.fin tfine rfl trivial ?_
  refine G.seqR tfine rfl ?_ ?_
  · simp only [AllP]
    and_intros <;> first | trivial | decide
  rw [lenE k hlt]
  refine G.seq ?_
  refine G.region_lit ?_
  refine GO.moveAny tfine rfl (.inl rfl) rfl rfl rfl ?_
  refine GO.more tfine rfl trivial ?_
  refine GO.appendAccB (n := k) (c := cp) (el := elP ms) [I (3 * ((k + 1 : Nat) : Int)), I (30 * ((k + 1 : Nat) : Int))] [(1, .v (.c (.k (I 30)))), (2, .v (.c (.ptr 2 0 0 0))), (7, .v (.c (.k (I 100)))), (8, .v (.c (.k (I (30 * ((k + 1 : Nat) : Int))))))]
      [(801, .say (sb (.slice A 2 c)) (fun w => RdRow w A 2 2 (elM tb))), (806, .ro 2 2 (elM tb)), (2, .var 47 [.inp 806 A 2 c, .k (I 0)])] apMk rfl rfl rfl rfl rfl rfl rfl rfl rfl rfl (fun u hu => by simp at hu; rcases hu with rfl | rfl <;> rfl)
      (St.le_of rfl ⟨⟨_, rfl, Blk.le_refl _⟩, ⟨_, rfl, Blk.le_refl _⟩, ⟨_, rfl, Blk.le_refl _⟩, trivial⟩ ⟨rfl, rfl, rfl, rfl, trivial⟩) (subM.fr (x := 53) ⟨rfl, (by decide : (801 : Nat) ≠ 53), rfl, (by decide : (806 : Nat) ≠ 53), rfl, (by decide : (2 : Nat) ≠ 53), trivial⟩) (fun k hk => rfl) (by unfold maxLen; omega) (by omega) fun c' hc' => ?_
  refine GO.fin tfine rfl trivial ?_
  refine G.seq ?_
  refine G.seqR tfine rfl trivial ?_
  refine G.cond (b := decide (((k + 1 : Nat) : Int) > 128)) rfl (fun h8 => ?_) (fun h8 => ?_)
  · have h8 := of_decide_eq_true h8
    omega
  refine G.skip ?_
  refine G.reg tfine rfl trivial ?_
  refine ⟨(k + 1, c', ms ++ [(3 * ((k + 1 : Nat) : Int), 30 * ((k + 1 : Nat) : Int))]), ⟨by simp only; omega, by simp only; exact hc', by simp [hms]⟩, (by show 3 - (k + 1) < 3 - k; omega), ?_⟩
  have hsn : ∀ j, j < k + 1 → elP (ms ++ [(3 * ((k + 1 : Nat) : Int), 30 * ((k + 1 : Nat) : Int))]) j = elN (elP ms) k [I (3 * ((k + 1 : Nat) : Int)), I (30 * ((k + 1 : Nat) : Int))] j := fun j hj => by
    have := elP_snoc ms (3 * ((k + 1 : Nat) : Int), 30 * ((k + 1 : Nat) : Int)) j (by omega)
    rw [hms] at this
    exact this.symm
  refine St.le_of rfl ⟨⟨_, rfl, Blk.le_refl _⟩, ⟨_, rfl, Blk.le_refl _⟩, ⟨_, rfl, Blk.le_refl _⟩, ⟨_, rfl, rfl, rfl, Nat.le_refl _, hsn, Nat.le_refl _⟩, trivial⟩ ⟨rfl, rfl, rfl, rfl, ?_, trivial⟩
  show TV.v (.c (.k (I (IntKind.i64.wrap (30 * ((k + 1 : Nat) : Int) + 30))))) = TV.v (.c (.k (I (30 * ((k + 1 + 1 : Nat) : Int)))))
  rw [IntWalk.i64_in _ (by omega), show 30 * ((k + 1 : Nat) : Int) + 30 = 30 * ((k + 1 + 1 : Nat) : Int) by omega]
end Go.Proofs.YtphipfmidfoflaaGreat
/- The symbolic executor, part BJ: a row that was just built becomes a constant. Generic over P. -/
set_option linter.unusedVariables false
set_option linter.unusedSimpArgs false
namespace Go.Sx
open Go.RowKit
/-- The elements of a row that lies in a variable. -/
def elV (vs : List Value) (sz i : Nat) : List Value := (vs.drop (i * sz)).take sz
section
variable {P : Program} {E : Env} {K : Exit → St → Prop} {T : Tab}
theorem Sat.freezeVar {ρ : Val} {t : Nat → TV} {m : Mem} {a : Act} {w : World} (h : Sat E ρ ⟨t, m⟩ a w) {x d n sz c : Nat} {ty : TypeId} {vs : List Value} (ht : t d = .v (.c (.slc x 0 sz n c))) (hm : m x = some (.var ty (vs.map .k))) (hn : n * sz ≤ vs.length) :
    Sat E ρ ⟨up t d (.v (.c (.k (.slice (some ⟨(ρ x).1, 0, none⟩) n c)))), up m x (some (.say (· = (ρ x).1) fun w => RdRow w (some ⟨(ρ x).1, 0, none⟩) n sz (elV vs sz)))⟩ a w := by
  have hk := h.mem.ok x _ hm
  have hsz : ∀ y, (m y).isSome = true → (up m x (some (.say (· = (ρ x).1) fun w => RdRow w (some ⟨(ρ x).1, 0, none⟩) n sz (elV vs sz))) y).isSome = true := fun y hy => isSome_up y hy
  refine h.remem (h.mem.swap h.mem.fr (Nat.le_refl _) hsz fun y b hy => ?_) hsz ?_
  · by_cases e : y = x
    · subst e
      rw [up_same] at hy
      injection hy with hy
      subst hy
      refine .inr (.inl ⟨_, _, rfl, ?_, ?_, ?_, fun z c hz hc ho => ?_⟩)
      · have := (h.mem.rdVar (sz := sz) hm 0 n (by simpa using hn))
        simp only [Nat.zero_mul, Nat.add_zero, Nat.zero_add, hk.1] at this
        exact this
      · rintro k rfl; exact h.mem.lt hm trivial
      · exact (steady_row (cap := c)).mono fun k hk => by obtain ⟨_, a, e, rfl⟩ := hk; cases e; rfl
      · rw [up_other _ _ hz] at hc
        exact h.mem.ne z y c _ hc hm ho trivial hz
    · rw [up_other _ _ e] at hy
      exact .inl ⟨hy, fun _ _ _ => rfl⟩
  · have hd := h.tm d
    rw [show (St.mk t m).t d = _ from ht] at hd
    refine ⟨trivial, hd.2.trans ?_⟩
    simp [AV.conc, AC.conc, hk.1]
theorem GO.freezeVar {ops : Array Oper} {rest : List Oper} {t : Nat → TV} {m : Mem} (x d : Nat) {n sz c : Nat} {ty : TypeId} {vs : List Value} (ht : t d = .v (.c (.slc x 0 sz n c))) (hm : m x = some (.var ty (vs.map .k))) (hn : n * sz ≤ vs.length)
    (k : ∀ g, (E.w0.heap.size ≤ g ∨ (x, g) ∈ E.bor) → GO P E ops K rest ⟨up t d (.v (.c (.k (.slice (some ⟨g, 0, none⟩) n c)))), up m x (some (.say (· = g) fun w => RdRow w (some ⟨g, 0, none⟩) n sz (elV vs sz)))⟩) : GO P E ops K rest ⟨t, m⟩ :=
  GO.sem fun ρ a w hs => ⟨ρ, _, hs.freezeVar ht hm hn, k _ (hs.mem.ownGe hm trivial)⟩
/-- An operation under a guard that is open. -/
theorem GO.stepOpen (hT : Tab.fine P T) {ops : Array Oper} {rest : List Oper} {st : St} {o : Oper} {d j : Nat} {want : Bool} {tv : TV} {m' : Nat → Option Blk} {obs : List Prop} (hg : o.guard = some (j, want)) (hb : guardB ops st.t j want = some true) (hdd : o.dst = some d) (hd : dstOk E.N o.dst = true)
    (h : evOp T d (evT st.t) st.m o.op = .ok tv m' obs) (ho : AllP obs) (k : GO P E ops K rest ⟨putT st.t o.dst tv, m'⟩) : GO P E ops K (o :: rest) st := by
  intro ρ a w hs
  have hw := wanted_cond (ops := ops) hs hg hb
  unfold wpL
  rw [hw, if_pos rfl]
  exact .inl (Snd.go hs (dstOk_lt hd) (evOp_sound hT hs.mem (fun _ => rfl) hs.eval rfl h ho) fun ρ' a' w' hs' => k ρ' a' w' hs')
end
end Go.Sx
/- Top: the example that is looked at first. -/
set_option linter.unusedVariables false
set_option linter.unusedSimpArgs false
set_option maxRecDepth 8000
set_option maxHeartbeats 2000000
namespace Go.Proofs.YtphipfmidfoflaaGreat
open Go.Sx Go.RowKit
def CaskAns (w w' : World) (s : ByteArray) (pos : Int) (l : List (Int × Int)) (decl : Int) (e : Ending) : Prop := ∃ v : Option Addr × Nat, e = .returned (.agg #[.string s, I pos, .slice v.1 l.length v.2, I decl]) ∧ Below w.heap.size w w' ∧ RdRow w' v.1 l.length 2 (elP l) ∧ (∀ k, sb (.slice v.1 l.length v.2) k → w.heap.size ≤ k ∧ k < w'.heap.size) ∧ Steady (sb (.slice v.1 l.length v.2)) (fun w => RdRow w v.1 l.length 2 (elP l))
def brS : ByteArray := ⟨#[65, 45, 49]⟩
def brl : List (Int × Int) := [(0, 300), (500, 400), (1000, 300)]
theorem barrel_any (w : World) : Calls Tryz.prog 17 #[] w fun e w' => CaskAns w w' brS 1 brl 387 e := by
  refine enterSay [] [] [] Tryz.func17 rfl 6 Tryz.ntmps17 rfl rfl trivial trivial ?_
  refine G.seqR tfine rfl trivial ?_
  refine G.seq ?_
  refine G.region_lit ?_
  refine GO.firstN tfine 4 rfl trivial ?_
  refine GO.freezeVar 4 4 (vs := [I 0, I 300, I 500, I 400, I 1000, I 300]) rfl rfl (by decide) fun g hg => ?_
  refine GO.fin tfine rfl trivial ?_
  have e0 : ∀ i, i < 3 → elP brl i = elV [I 0, I 300, I 500, I 400, I 1000, I 300] 2 i := fun i hi => by
    match i, hi with
    | 0, _ => rfl
    | 1, _ => rfl
    | 2, _ => rfl
  refine G.ret ⟨.inl rfl, fun ρ a w' hs => ⟨_, results_run tfine hs rfl, (some ⟨g, 0, none⟩, 3), rfl, hs.mem.fr.toBelow, (hs.mem.ok 4 _ rfl).1.congr e0, fun k hk => ?_, steady_row⟩⟩
  obtain ⟨_, a, e, rfl⟩ := hk
  injection e with e
  rw [← e]
  exact ⟨hg.elim id (fun h => by cases h), (hs.mem.ok 4 _ rfl).2.1 g rfl⟩
theorem equal3_any (A B : Option Addr) (c d : Nat) (w : World) (h1 : RdRow w A 3 1 (elI [4, 3, 3])) (h2 : RdRow w B 3 1 (elI [4, 3, 3])) :
    Calls Tryz.prog 22 #[.slice A 3 c, .slice B 3 d] w fun e w' => e = .returned (.bool true) ∧ Below w.heap.size w w' := by
  refine enterPlain tfine Tryz.func22 rfl 26 Tryz.ntmps22 [.c (.inp 1000 A 3 c), .c (.inp 1001 B 3 d)] [⟨1000, A, 1, 3, elI [4, 3, 3]⟩, ⟨1001, B, 1, 3, elI [4, 3, 3]⟩] rfl rfl ⟨h1, h2, trivial⟩ ⟨.inl ⟨rfl, rfl, rfl⟩, .inr ⟨(by decide : (1000 : Nat) ≠ 1001), .inl ⟨rfl, rfl, rfl⟩⟩, trivial⟩ ?_
  refine G.seqR tfine rfl trivial ?_
  refine G.seq ?_
  refine G.seqR tfine rfl trivial ?_
  refine G.cond_false rfl ?_
  refine G.skip ?_
  refine G.seq (G.seqR tfine rfl trivial ?_)
  refine G.block (G.loop (fun k : Nat => St.of [(0, .v (.c (.inp 1000 A 3 c))), (1, .v (.c (.inp 1001 B 3 d))), (12, .v (.c (.k (I 3)))), (13, .v (.c (.k (I k))))] [(1000, .ro 1 3 (elI [4, 3, 3])), (1001, .ro 1 3 (elI [4, 3, 3]))])
    (fun k => k ≤ 3) (fun k => 3 - k) 0 (by decide) (St.le_of rfl ⟨⟨_, rfl, Blk.le_refl _⟩, ⟨_, rfl, Blk.le_refl _⟩, trivial⟩ ⟨rfl, rfl, rfl, rfl, trivial⟩) ?_)
  intro k hk
  refine G.seqR tfine rfl trivial ?_
  refine G.seq (G.cond (b := decide ((k : Int) < 3)) rfl (fun h7 => ?_) (fun h7 => ?_))
  · have h7 := of_decide_eq_true h7
    have hw3 : IntKind.i64.wrap ((k : Int) + 1) = ((k + 1 : Nat) : Int) := IntWalk.i64_in _ (by omega)
    refine G.skip ?_
    refine G.seq (G.block ?_)
    refine G.seqR tfine rfl trivial ?_
    refine G.seqD tfine hmix [0, 0, 3, 7, 0, 0, 48, 112, 255] [] rfl rfl rfl rfl ?_ ?_
    · simp only [AllP]
      and_intros <;> first | trivial | omega
    refine G.cond (b := [4, 3, 3].getD ((k : Nat) : Int).toNat 0 != [4, 3, 3].getD ((k : Nat) : Int).toNat 0) rfl (fun h8 => ?_) (fun h8 => ?_)
    · simp at h8
    refine G.skip ?_
    refine G.reg tfine rfl trivial ?_
    refine ⟨k + 1, by omega, (by show 3 - (k + 1) < 3 - k; omega), St.le_of rfl ⟨⟨_, rfl, Blk.le_refl _⟩, ⟨_, rfl, Blk.le_refl _⟩, trivial⟩ ⟨rfl, rfl, rfl, ?_, trivial⟩⟩
    show TV.v (.c (.k (I (IntKind.i64.wrap ((k : Int) + 1))))) = _
    rw [hw3]
  refine G.exit ?_
  refine G.seqR tfine rfl trivial ?_
  exact G.ret (endK.ret rfl rfl)
theorem brFault : faultM brS 1 brl 387 [0, 400, 800] 2 = 0 := by decide +kernel
theorem brSlices : (slicesM brl 2).2 = 0 := by decide +kernel
theorem brBet : ∀ k, k + 1 < 3 → (bE brS 1 brl 387 (slicesM brl 2).1 [0, 400, 800] k).2.2 = 0 := by
  intro k hk
  have : k = 0 ∨ k = 1 := by omega
  rcases this with rfl | rfl <;> decide +kernel
theorem brVol : (capacity_Volume brS 1 brl 387).1 = 387 ∧ (capacity_Volume brS 1 brl 387).2.2 = 0 := by decide +kernel
theorem brRep : gauge_Report tb 0 0 10 200 4000 0 = (0, 10, 200, 4000, 100, 100, 400000, 400000, 0) := by kernel_rfl
theorem awake_any (w : World) : Calls Tryz.prog 5 #[] w fun e w' => e = .returned (.bool true) ∧ Below w.heap.size w w' := by
  refine enterSay [] [] [] Tryz.func5 rfl 89 Tryz.ntmps5 rfl rfl trivial trivial ?_
  refine G.seqR tfine rfl trivial ?_
  refine G.seqC tfine rfl trivial ?_
  refine GO.callSay 812 (fun v : Option Addr × Nat => .agg #[.string brS, I 1, .slice v.1 brl.length v.2, I 387]) (fun v => sb (.slice v.1 brl.length v.2)) (fun v w => RdRow w v.1 brl.length 2 (elP brl)) rfl rfl rfl rfl rfl (fun args w => Tryz.call17 args w) (fun ρ w1 hs hok => barrel_any w1) fun v => ?_
  refine GO.firstN tfine 1 rfl trivial ?_
  refine GO.freezeVar 13 13 (vs := [I 0, I 400, I 800]) rfl rfl (by decide) fun g hg => ?_
  refine GO.callSay 813 (fun u : (Option Addr × Nat) × Int => .tuple #[.agg #[.slice u.1.1 3 u.1.2, I u.2], I 0]) (fun _ _ => False) (fun _ _ => True) rfl rfl rfl rfl rfl (fun args w => Tryz.call16 args w) (fun ρ w1 hs hok => ?_) fun u => ?_
  · have e0 : ∀ i, i < 3 → elI [0, 400, 800] i = elV [I 0, I 400, I 800] 1 i := fun i hi => by
      match i, hi with
      | 0, _ => rfl
      | 1, _ => rfl
      | 2, _ => rfl
    have := dipBuild_any brS v.1 v.2 brl 387 (some ⟨g, 0, none⟩) 3 [0, 400, 800] 2 w1 (hs.ok 812 _ rfl).1 ((hs.ok 13 _ rfl).1.congr e0) (by decide) (by decide) (by decide) (by decide) brFault brSlices brBet
    refine this.mono ?_
    rintro e w' ⟨u, wd, rfl, hb⟩
    exact ⟨(u, wd), rfl, hb, trivial, fun k hk => hk.elim, fun _ _ _ _ h => h⟩
  refine GO.fin tfine rfl trivial ?_
  refine G.seqC tfine rfl trivial ?_
  refine GO.callSay 822 (fun v : Option Addr × Nat => .agg #[.string brS, I 1, .slice v.1 brl.length v.2, I 387]) (fun v => sb (.slice v.1 brl.length v.2)) (fun v w => RdRow w v.1 brl.length 2 (elP brl)) rfl rfl rfl rfl rfl (fun args w => Tryz.call17 args w) (fun ρ w1 hs hok => barrel_any w1) fun v2 => ?_
  refine GO.more tfine rfl trivial ?_
  obtain ⟨vb, hvb⟩ : ∃ vb, vb = (capacity_Volume brS 1 brl 387).2.1 := ⟨_, rfl⟩
  refine GO.callPlain (v := .tuple #[.agg #[I 387, I vb], I 0]) rfl rfl rfl rfl (fun args w => Tryz.call18 args w) (fun ρ w1 hs hok => ?_) ?_
  · have := capacity_Volume_any brS 1 v2.1 v2.2 brl 387 w1 (hs.ok 822 _ rfl).1 (by decide)
    rw [brVol.1, brVol.2, ← hvb] at this
    exact this
  refine GO.fin tfine rfl trivial ?_
  refine G.seqC tfine rfl trivial ?_
  refine GO.callSay 814 (fun u : Option Addr × Nat => .tuple #[.slice u.1 3 u.2, I 0]) (fun u => sb (.slice u.1 3 u.2)) (fun u w => RdRow w u.1 3 1 (elI [4, 3, 3])) rfl rfl rfl rfl rfl (fun args w => Tryz.call19 args w) (fun ρ w1 hs hok => ?_) fun u2 => ?_
  · have h0 := hs.rdVar (x := 23) (sz := 1) (ty := 3) (vs := [I 1, I 1, I 1]) rfl 0 3 (by decide)
    exact divide_any (some ⟨(ρ 23).1, (ρ 23).2 + 0 * 1, none⟩) 3 w1 (h0.congr fun i hi => by
      match i, hi with
      | 0, _ => rfl
      | 1, _ => rfl
      | 2, _ => rfl)
  refine GO.fin tfine rfl trivial ?_
  have e1 : ∀ i, i < 2 → elM tb i = elV [I 0, I 0, I 10, I 100] 2 i := fun i hi => by
    match i, hi with
    | 0, _ => rfl
    | 1, _ => rfl
  refine G.seq ?_
  refine G.region_lit ?_
  refine GO.firstN tfine 3 rfl trivial ?_
  refine GO.freezeVar 30 30 (vs := [I 0, I 0, I 10, I 100]) rfl rfl (by decide) fun g2 hg2 => ?_
  refine GO.more tfine rfl trivial ?_
  refine GO.callSay 815 (fun u : Option Addr × Nat => .tuple #[.slice u.1 3 u.2, I 0]) (fun _ _ => False) (fun _ _ => True) rfl rfl rfl rfl rfl (fun args w => Tryz.call20 args w) (fun ρ w1 hs hok => ?_) fun u3 => ?_
  · have := make_any (some ⟨g2, 0, none⟩) 2 w1 ((hs.ok 30 _ rfl).1.congr e1)
    refine this.mono ?_
    rintro e w' ⟨⟨u, rfl⟩, hb⟩
    exact ⟨u, rfl, hb, trivial, fun k hk => hk.elim, fun _ _ _ _ h => h⟩
  refine GO.fin tfine rfl trivial ?_
  refine G.seq ?_
  refine G.region_lit ?_
  refine GO.firstN tfine 3 rfl trivial ?_
  refine GO.freezeVar 38 38 (vs := [I 0, I 0, I 10, I 100]) rfl rfl (by decide) fun g3 hg3 => ?_
  refine GO.more tfine rfl trivial ?_
  refine GO.callPlain (v := .tuple #[.agg #[I 0, I 10, I 200, I 4000, I 100, I 100, I 400000, I 400000], I 0]) rfl rfl rfl rfl (fun args w => Tryz.call21 args w) (fun ρ w1 hs hok => ?_) ?_
  · have := gauge_Report_any (some ⟨g3, 0, none⟩) 2 tb 0 0 10 200 4000 0 w1 ((hs.ok 38 _ rfl).1.congr e1) (by decide)
    rw [brRep] at this
    exact this
  refine GO.fin tfine rfl trivial ?_
  refine G.seqC tfine rfl ?_ ?_
  · simp [AllP, condB]
  refine GO.stepOpen tfine rfl rfl rfl rfl rfl trivial ?_
  refine GO.callGuard (.bool true) rfl rfl rfl (by first | exact trivial | exact ⟨id, trivial⟩ | exact ⟨id, id, trivial⟩ | exact ⟨id, id, id, trivial⟩) rfl rfl (fun args w => Tryz.call22 args w) rfl (fun _ m' hle ρ w1 hs hok => ?_) ?_
  · have h0 := hs.rdVar (x := 75) (sz := 1) (ty := 3) (vs := [I 4, I 3, I 3]) (LeM.at hle rfl) 0 3 (by decide)
    exact equal3_any u2.1 (some ⟨(ρ 75).1, (ρ 75).2 + 0 * 1, none⟩) u2.2 3 w1 (hs.ok 814 _ (LeM.at hle rfl)).1 (h0.congr fun i hi => by
      match i, hi with
      | 0, _ => rfl
      | 1, _ => rfl
      | 2, _ => rfl)
  refine GO.fin tfine rfl ?_ ?_
  · simp [AllP, condB]
  exact G.ret (retK.plain tfine rfl rfl)
end Go.Proofs.YtphipfmidfoflaaGreat
/- Top: cylinders, the walk. -/
set_option linter.unusedVariables false
set_option linter.unusedSimpArgs false
set_option maxRecDepth 8000
set_option maxHeartbeats 2000000
namespace Go.Proofs.YtphipfmidfoflaaGreat
open Go.Sx Go.RowKit
theorem apPt : ApT Tryz.prog 22 39 2 16 (.agg #[I 0, I 0]) := ⟨by kernel_rfl, by kernel_rfl, rfl, by decide⟩
theorem clonePt_any (A : Option Addr) (c : Nat) (l : List (Int × Int)) (w : World) (h : RdRow w A l.length 2 (elP l)) (hn : l.length ≤ 100000) : Calls Tryz.prog 11 #[.slice A l.length c] w fun e w' => SumAns w w' l e := by
  have hA : A = none → l.length = 0 := fun e => by
    rcases Nat.eq_zero_or_pos l.length with h0 | h0
    · exact h0
    · obtain ⟨b, o, e', _⟩ := h h0
      rw [e] at e'; cases e'
  refine enterSay [] [.c (.k (.slice A l.length c))] [(801, .say (sb (.slice A l.length c)) (fun w => RdRow w A l.length 2 (elP l)))] Tryz.func11 rfl 8 Tryz.ntmps11 rfl rfl ⟨trivial, trivial⟩ ⟨⟨h, sb_lt h, steady_row⟩, trivial, trivial⟩ ?_
  refine G.openSay 801 806 0 rfl (fun _ h => h) (fun _ h => h) rfl rfl rfl ?_
  refine G.seqR tfine rfl trivial ?_
  refine G.seq (G.seqR tfine rfl trivial ?_)
  refine G.cond (b := A.isNone) rfl (fun h1 => ?_) (fun h1 => ?_)
  · refine G.seqR tfine rfl trivial ?_
    have h0 : l = [] := List.length_eq_zero_iff.1 (hA (by cases A <;> simp at h1 ⊢))
    subst h0
    exact G.ret ⟨.inl rfl, fun ρ a w' hs => ⟨_, results_run tfine hs rfl, (none, 0), rfl, hs.mem.fr.toBelow, RdRow.nil _ _ _ _, fun k hk => absurd hk.1 (Nat.lt_irrefl 0), steady_row⟩⟩
  refine G.skip ?_
  refine G.seqC tfine rfl trivial ?_
  refine GO.emptySlice tfine rfl rfl rfl rfl rfl rfl rfl fun A0 => ?_
  refine GO.more tfine rfl trivial ?_
  refine GO.appendNew (elP l) apPt rfl rfl rfl rfl rfl rfl rfl rfl (RowOf.ro rfl) (fun k hk => rfl) (fun i hi u hu => by simp [elP] at hu; rcases hu with rfl | rfl <;> rfl) (by unfold maxLen; omega) (by omega) (fun h0 => ?_) fun h0 c' hc' => ?_
  · refine GO.fin tfine rfl trivial ?_
    have h0 : l = [] := List.length_eq_zero_iff.1 h0
    subst h0
    exact G.ret ⟨.inl rfl, fun ρ a w' hs => ⟨_, results_run tfine hs rfl, (A0, 0), rfl, hs.mem.fr.toBelow, RdRow.nil _ _ _ _, fun k hk => absurd hk.1 (Nat.lt_irrefl 0), steady_row⟩⟩
  · refine GO.fin tfine rfl trivial ?_
    refine G.freezeArr 7 2 rfl rfl (Nat.le_refl _) fun g hg => ?_
    refine G.ret ⟨.inl rfl, fun ρ a w' hs => ⟨_, results_run tfine hs rfl, (some ⟨g, 0, none⟩, c'), rfl, hs.mem.fr.toBelow, (hs.mem.ok 7 _ rfl).1, fun k hk => ?_, steady_row⟩⟩
    obtain ⟨_, a, e, rfl⟩ := hk
    injection e with e
    rw [← e]
    exact ⟨hg.elim id (fun h => by cases h), (hs.mem.ok 7 _ rfl).2.1 g rfl⟩
end Go.Proofs.YtphipfmidfoflaaGreat
/- Top: the law of cylinders. -/
set_option linter.unusedVariables false
set_option linter.unusedSimpArgs false
set_option maxRecDepth 8000
set_option maxHeartbeats 2000000
namespace Go.Proofs.YtphipfmidfoflaaGreat
open Go.Sx Go.RowKit
open Go.Cy (sumS)
theorem sumS_const {h g : Nat → Int} {c : Int} : ∀ k, (∀ i, i < k → g i = c) → sumS h g k = (h k - h 0) * c
  | 0, _ => by simp [sumS]
  | k + 1, hg => by
    rw [sumS, sumS_const k (fun i hi => hg i (by omega)), hg k (by omega), ← Int.add_mul]
    congr 1
    omega
/-! ### Places -/
theorem pushX_grid {o : List Int} {a b x : Int} (h : Grid o a b) (hx : b ≤ x) : Grid (pushX o x) a x ∧ ∀ y, y ∈ o → y ∈ pushX o x := by
  have hl : lastI o = b := h.lst
  unfold pushX
  split
  · rename_i h1
    have hlen := h.len
    have e0 : (o ++ [x]).getD 0 0 = o.getD 0 0 := by
      rw [List.getD_eq_getElem?_getD, List.getD_eq_getElem?_getD, List.getElem?_append_left (by omega)]
    have ei : ∀ i, i < o.length → (o ++ [x]).getD i 0 = o.getD i 0 := fun i hi => by
      rw [List.getD_eq_getElem?_getD, List.getD_eq_getElem?_getD, List.getElem?_append_left hi]
    have ex : (o ++ [x]).getD o.length 0 = x := by
      rw [List.getD_eq_getElem?_getD, List.getElem?_append_right (Nat.le_refl _)]
      simp
    refine ⟨⟨by simp, by rw [e0, h.fst], ?_, fun i j hij hj => ?_⟩, fun y hy => List.mem_append_left _ hy⟩
    · rw [List.length_append, show o.length + [x].length - 1 = o.length by simp]
      exact ex
    · rw [List.length_append, List.length_singleton] at hj
      by_cases e : j = o.length
      · subst e
        rw [ex, ei i hij]
        have := (h.range hij).2
        omega
      · rw [ei i (by omega), ei j (by omega)]
        exact h.inc i j hij (by omega)
  · rename_i h1
    have : x = b := by omega
    rw [this]
    exact ⟨h, fun y hy => hy⟩
theorem plX_eq {q H m : Int} {i : Nat} (h0 : 0 ≤ q) (h1 : q ≤ 100000) (h2 : 0 ≤ H) (h3 : H ≤ 100000) (hm : 1 ≤ m) (hm2 : m ≤ 64) (hi : (i : Int) ≤ m) : plX q H m i = q + (i : Int) * H / m := by
  obtain ⟨a, b, c⟩ := ih_bound (i := i) h2 (by omega) hm hi
  have d : (i : Int) * H ≤ 64 * 100000 := Int.mul_le_mul (by omega) h3 h2 (by omega)
  unfold plX
  rw [w64 (x := (i : Int) * H) (by omega) (by omega), tdiv_ediv a, w64 (x := (i : Int) * H / m) (by omega) (by omega), w64 (by omega) (by omega)]
theorem innerS_grid {q H m a : Int} {o : List Int} (h0 : 0 ≤ q) (h1 : q ≤ 100000) (h2 : 0 ≤ H) (h3 : H ≤ 100000) (hm : 1 ≤ m) (hm2 : m ≤ 64) (ho : Grid o a q) : ∀ i : Nat, (i : Int) ≤ m → Grid (innerS q H m o i) a (q + (i : Int) * H / m) ∧ ∀ y, y ∈ o → y ∈ innerS q H m o i
  | 0, _ => by
    refine ⟨?_, fun y hy => hy⟩
    simp only [innerS, Int.natCast_zero, Int.zero_mul, Int.zero_ediv, Int.add_zero]
    exact ho
  | i + 1, hi => by
    obtain ⟨g1, g2⟩ := innerS_grid h0 h1 h2 h3 hm hm2 ho i (by omega)
    rw [innerS, plX_eq h0 h1 h2 h3 hm hm2 hi]
    have := ih_mono (dip := H) (n := m) (i := i) (j := i + 1) h2 hm (by omega)
    obtain ⟨g3, g4⟩ := pushX_grid (x := q + ((i + 1 : Nat) : Int) * H / m) g1 (by omega)
    exact ⟨g3, fun y hy => g4 y (g2 y hy)⟩
theorem outerS_grid {l : List (Int × Int)} {m : Int} (ok : ProfOK l) (hm : 1 ≤ m) (hm2 : m ≤ 64) : ∀ k, k < l.length → Grid (outerS l m k) 0 (pt l k).1 ∧ ∀ j, j ≤ k → (pt l j).1 ∈ outerS l m k
  | 0, hk => by
    rw [ok.zero]
    refine ⟨⟨Nat.le_refl 1, rfl, rfl, fun i j hij hj => ?_⟩, fun j hj => ?_⟩
    · have : j < 1 := hj
      omega
    · rw [show j = 0 by omega, ok.zero]
      exact List.mem_singleton.2 rfl
  | k + 1, hk => by
    obtain ⟨g1, g2⟩ := outerS_grid ok hm hm2 k (by omega)
    have a1 := ok.x0 k (by omega)
    have a2 := ok.x0 (k + 1) hk
    have a3 := ok.up k hk
    have eH : IntKind.i64.wrap ((pt l (k + 1)).1 - (pt l k).1) = (pt l (k + 1)).1 - (pt l k).1 := w64 (by omega) (by omega)
    obtain ⟨g3, g4⟩ := innerS_grid (q := (pt l k).1) (H := (pt l (k + 1)).1 - (pt l k).1) (m := m) a1.1 a1.2 (by omega) (by omega) hm hm2 g1 m.toNat (by omega)
    rw [show ((m.toNat : Nat) : Int) = m by omega, Int.mul_ediv_cancel_left _ (show m ≠ 0 by omega), show (pt l k).1 + ((pt l (k + 1)).1 - (pt l k).1) = (pt l (k + 1)).1 by omega] at g3
    rw [outerS, eH]
    refine ⟨g3, fun j hj => ?_⟩
    by_cases e : j = k + 1
    · subst e
      exact mem_at.2 ⟨_, by have := g3.len; omega, g3.lst⟩
    · exact g4 _ (g2 j (by omega))
/-! ### Cylinders -/
end Go.Proofs.YtphipfmidfoflaaGreat
/- Top: strips within strips. -/
set_option linter.unusedVariables false
set_option linter.unusedSimpArgs false
set_option maxRecDepth 8000
set_option maxHeartbeats 2000000
namespace Go.Proofs.YtphipfmidfoflaaGreat
open Go.Sx Go.RowKit
open Go.Cy (sumS)
/-! ### Strips within strips -/
theorem sq_mono {x y : Int} (h0 : 0 ≤ x) (h : x ≤ y) : x * x ≤ y * y := Int.mul_le_mul h h h0 (by omega)
theorem sq_neg {x y : Int} (h0 : x ≤ 0) (h : y ≤ x) : x * x ≤ y * y := by
  have := sq_mono (x := -x) (y := -y) (by omega) (by omega)
  rwa [Int.neg_mul_neg, Int.neg_mul_neg] at this
theorem gl_pt {s s' o a b x : Int} (h0 : 0 ≤ s) (hs : s ≤ s') (h1 : s' ≤ 100000) (hx : a ≤ x ∧ x ≤ b) : gl s o a b ≤ xL s' (x - o) := by
  unfold gl
  rcases Int.le_total x o with h | h
  · have := xL_mono (s := s) (s' := s') (d := a - o) (d' := x - o) h0 hs h1 (sq_neg (by omega) (by omega))
    omega
  · have := xL_mono (s := s) (s' := s') (d := b - o) (d' := x - o) h0 hs h1 (sq_mono (by omega) (by omega))
    omega
theorem gl_sub {s s' o a b a' b' : Int} (h0 : 0 ≤ s) (hs : s ≤ s') (h1 : s' ≤ 100000) (h : a ≤ a' ∧ a' ≤ b' ∧ b' ≤ b) : gl s o a b ≤ gl s' o a' b' := by
  have x1 := gl_pt (o := o) (a := a) (b := b) (x := a') h0 hs h1 (by omega)
  have x2 := gl_pt (o := o) (a := a) (b := b) (x := b') h0 hs h1 (by omega)
  unfold gl at *
  omega
theorem gh_pt {s s' o a b x : Int} (h0 : 0 ≤ s) (hs : s ≤ s') (h1 : s' ≤ 100000) (hx : a ≤ x ∧ x ≤ b) : xH s (x - o) ≤ gh s' o a b := by
  unfold gh
  split
  · have := xH_le (d := x - o) h0 (by omega)
    omega
  · rename_i h
    rcases (show o < a ∨ b < o by omega) with g | g
    · have := xH_mono (s := s) (s' := s') (d := x - o) (d' := a - o) h0 hs h1 (sq_mono (by omega) (by omega))
      omega
    · have := xH_mono (s := s) (s' := s') (d := x - o) (d' := b - o) h0 hs h1 (sq_neg (by omega) (by omega))
      omega
theorem gh_sub {s s' o a b a' b' : Int} (h0 : 0 ≤ s) (hs : s ≤ s') (h1 : s' ≤ 100000) (h : a ≤ a' ∧ a' ≤ b' ∧ b' ≤ b) : gh s o a' b' ≤ gh s' o a b := by
  have x1 := gh_pt (s := s) (s' := s') (o := o) (a := a) (b := b) (x := a') h0 hs h1 (by omega)
  have x2 := gh_pt (s := s) (s' := s') (o := o) (a := a) (b := b) (x := b') h0 hs h1 (by omega)
  rw [gh]
  split
  · rw [gh, if_pos (by omega)]
    exact hs
  · omega
/-! ### Sums -/
theorem sumS_le {h g g' : Nat → Int} : ∀ k, (∀ i, i < k → h i ≤ h (i + 1)) → (∀ i, i < k → g i ≤ g' i) → sumS h g k ≤ sumS h g' k
  | 0, _, _ => Int.le_refl _
  | k + 1, hm, hg => by
    have a := sumS_le k (fun i hi => hm i (by omega)) (fun i hi => hg i (by omega))
    have b := hm k (by omega)
    have c := Int.mul_le_mul_of_nonneg_left (hg k (by omega)) (show 0 ≤ h (k + 1) - h k by omega)
    rw [sumS, sumS]
    omega
/-- Two strips for one. -/
theorem sumS_twice {h g e g' : Nat → Int} : ∀ k, (∀ i, i ≤ k → e (2 * i) = h i) → (∀ i, i < 2 * k → e i ≤ e (i + 1)) → (∀ i, i < k → g i ≤ g' (2 * i) ∧ g i ≤ g' (2 * i + 1)) → sumS h g k ≤ sumS e g' (2 * k)
  | 0, _, _, _ => Int.le_refl _
  | k + 1, he, hm, hg => by
    have a := sumS_twice k (fun i hi => he i (by omega)) (fun i hi => hm i (by omega)) (fun i hi => hg i (by omega))
    have e1 := he k (by omega)
    have e2 := he (k + 1) (by omega)
    have m1 := hm (2 * k) (by omega)
    have m2 := hm (2 * k + 1) (by omega)
    obtain ⟨g1, g2⟩ := hg k (by omega)
    have c1 := Int.mul_le_mul_of_nonneg_left g1 (show 0 ≤ e (2 * k + 1) - e (2 * k) by omega)
    have c2 := Int.mul_le_mul_of_nonneg_left g2 (show 0 ≤ e (2 * k + 1 + 1) - e (2 * k + 1) by omega)
    have e3 : (h (k + 1) - h k) * g k = (e (2 * k + 1) - e (2 * k)) * g k + (e (2 * k + 1 + 1) - e (2 * k + 1)) * g k := by
      rw [← Int.add_mul, ← e1, ← e2]
      congr 1
      rw [show 2 * (k + 1) = 2 * k + 1 + 1 by omega]
      omega
    rw [show 2 * (k + 1) = 2 * k + 1 + 1 by omega, sumS, sumS, sumS, e3]
    omega
theorem sumS_half {h g e g' : Nat → Int} : ∀ k, (∀ i, i ≤ k → e (2 * i) = h i) → (∀ i, i < 2 * k → e i ≤ e (i + 1)) → (∀ i, i < k → g' (2 * i) ≤ g i ∧ g' (2 * i + 1) ≤ g i) → sumS e g' (2 * k) ≤ sumS h g k
  | 0, _, _, _ => Int.le_refl _
  | k + 1, he, hm, hg => by
    have a := sumS_half k (fun i hi => he i (by omega)) (fun i hi => hm i (by omega)) (fun i hi => hg i (by omega))
    have e1 := he k (by omega)
    have e2 := he (k + 1) (by omega)
    have m1 := hm (2 * k) (by omega)
    have m2 := hm (2 * k + 1) (by omega)
    obtain ⟨g1, g2⟩ := hg k (by omega)
    have c1 := Int.mul_le_mul_of_nonneg_left g1 (show 0 ≤ e (2 * k + 1) - e (2 * k) by omega)
    have c2 := Int.mul_le_mul_of_nonneg_left g2 (show 0 ≤ e (2 * k + 1 + 1) - e (2 * k + 1) by omega)
    have e3 : (h (k + 1) - h k) * g k = (e (2 * k + 1) - e (2 * k)) * g k + (e (2 * k + 1 + 1) - e (2 * k + 1)) * g k := by
      rw [← Int.add_mul, ← e1, ← e2]
      congr 1
      rw [show 2 * (k + 1) = 2 * k + 1 + 1 by omega]
      omega
    rw [show 2 * (k + 1) = 2 * k + 1 + 1 by omega, sumS, sumS, sumS, e3]
    omega
theorem twice_div {dip n : Int} {i : Nat} (hn : 1 ≤ n) : ((2 * i : Nat) : Int) * dip / (2 * n) = (i : Int) * dip / n := by
  rw [show ((2 * i : Nat) : Int) * dip = 2 * ((i : Int) * dip) by rw [Int.natCast_mul, Int.mul_assoc]; rfl]
  exact Int.mul_ediv_mul_of_pos _ _ (by omega)
theorem hs_twice {dip n : Int} {i : Nat} (h0 : 0 ≤ dip) (h1 : dip ≤ 200000) (hn : 1 ≤ n) (hn2 : n ≤ 32) (hi : i ≤ n.toNat) : (hsM dip (2 * n) ((2 * n).toNat + 1)).getD (2 * i) 0 = (hsM dip n (n.toNat + 1)).getD i 0 := by
  rw [hsM_at (by omega), hsM_at (by omega), hgt_eq h0 h1 (by omega) (by omega) (by omega), hgt_eq h0 h1 hn (by omega) (by omega), twice_div hn]
/-- Twice as many strips: no less inside, no more outside. -/
theorem AL_twice {dip n o s : Int} (h0 : 0 ≤ dip) (h1 : dip ≤ 200000) (hn : 1 ≤ n) (hn2 : n ≤ 32) (s0 : 0 ≤ s) (s1 : s ≤ 100000) : AL (hsM dip n (n.toNat + 1)) o s ≤ AL (hsM dip (2 * n) ((2 * n).toNat + 1)) o s ∧ AH (hsM dip (2 * n) ((2 * n).toNat + 1)) o s ≤ AH (hsM dip n (n.toNat + 1)) o s := by
  have k2 := hs_ok (dip := dip) (n := 2 * n) h0 h1 (by omega) (by omega)
  have l1 := hsM_len dip n (n.toNat + 1)
  have l2 := hsM_len dip (2 * n) ((2 * n).toNat + 1)
  obtain ⟨e, he⟩ : ∃ e, e = hsM dip (2 * n) ((2 * n).toNat + 1) := ⟨_, rfl⟩
  obtain ⟨h, hh⟩ : ∃ h, h = hsM dip n (n.toNat + 1) := ⟨_, rfl⟩
  have ht : ∀ i, i ≤ n.toNat → e.getD (2 * i) 0 = h.getD i 0 := fun i hi => by rw [he, hh]; exact hs_twice h0 h1 hn hn2 hi
  rw [← he] at k2 l2 ⊢
  rw [← hh] at l1 ⊢
  have hm : ∀ i, i < 2 * n.toNat → e.getD i 0 ≤ e.getD (i + 1) 0 := fun i hi => k2.up i (by omega)
  have hr : ∀ i, i < n.toNat → h.getD i 0 ≤ e.getD (2 * i) 0 ∧ e.getD (2 * i) 0 ≤ e.getD (2 * i + 1) 0 ∧ e.getD (2 * i + 1) 0 ≤ e.getD (2 * i + 1 + 1) 0 ∧ e.getD (2 * i + 1 + 1) 0 ≤ h.getD (i + 1) 0 := fun i hi => by
    have a := ht i (by omega)
    have b := ht (i + 1) (by omega)
    have c := hm (2 * i) (by omega)
    have d := hm (2 * i + 1) (by omega)
    rw [show 2 * (i + 1) = 2 * i + 1 + 1 by omega] at b
    omega
  unfold AL AH
  rw [l1, l2, Nat.add_sub_cancel, Nat.add_sub_cancel, show (2 * n).toNat = 2 * n.toNat by omega]
  refine ⟨sumS_twice n.toNat ht hm fun i hi => ?_, sumS_half n.toNat ht hm fun i hi => ?_⟩
  · obtain ⟨a, b, c, d⟩ := hr i hi
    exact ⟨gl_sub s0 (Int.le_refl _) s1 ⟨a, b, by omega⟩, gl_sub s0 (Int.le_refl _) s1 ⟨by omega, c, d⟩⟩
  · obtain ⟨a, b, c, d⟩ := hr i hi
    exact ⟨gh_sub s0 (Int.le_refl _) s1 ⟨a, b, by omega⟩, gh_sub s0 (Int.le_refl _) s1 ⟨by omega, c, d⟩⟩
/-! ### Cells of one unit -/
def unS (F : Nat → Int) : Nat → Int
  | 0 => 0
  | k + 1 => unS F k + F k
theorem unS_lo {F : Nat → Int} {g : Int} {a : Nat} : ∀ d, (∀ t, a ≤ t → t < a + d → g ≤ F t) → unS F a + (d : Int) * g ≤ unS F (a + d)
  | 0, _ => by simp
  | d + 1, h => by
    have i := unS_lo d (fun t h1 h2 => h t h1 (by omega))
    have j := h (a + d) (by omega) (by omega)
    rw [show a + (d + 1) = a + d + 1 by omega, unS, show ((d + 1 : Nat) : Int) = (d : Int) + 1 by omega, Int.add_mul]
    omega
theorem unS_hi {F : Nat → Int} {g : Int} {a : Nat} : ∀ d, (∀ t, a ≤ t → t < a + d → F t ≤ g) → unS F (a + d) ≤ unS F a + (d : Int) * g
  | 0, _ => by simp
  | d + 1, h => by
    have i := unS_hi d (fun t h1 h2 => h t h1 (by omega))
    have j := h (a + d) (by omega) (by omega)
    rw [show a + (d + 1) = a + d + 1 by omega, unS, show ((d + 1 : Nat) : Int) = (d : Int) + 1 by omega, Int.add_mul]
    omega
theorem cells_lo {h g : Nat → Int} {F : Nat → Int} (h0 : h 0 = 0) : ∀ k, (∀ i, i < k → h i ≤ h (i + 1)) → (∀ i, i ≤ k → 0 ≤ h i) → (∀ i, i < k → ∀ t : Nat, h i ≤ t → (t : Int) + 1 ≤ h (i + 1) → g i ≤ F t) → sumS h g k ≤ unS F (h k).toNat
  | 0, _, _, _ => by rw [h0]; exact Int.le_refl _
  | k + 1, hm, hn, hg => by
    have a := cells_lo h0 k (fun i hi => hm i (by omega)) (fun i hi => hn i (by omega)) (fun i hi => hg i (by omega))
    have m := hm k (by omega)
    have n1 := hn k (by omega)
    have n2 := hn (k + 1) (by omega)
    have b := unS_lo (F := F) (g := g k) (a := (h k).toNat) ((h (k + 1)).toNat - (h k).toNat) (fun t h1 h2 => hg k (by omega) t (by omega) (by omega))
    rw [show (h k).toNat + ((h (k + 1)).toNat - (h k).toNat) = (h (k + 1)).toNat by omega, show (((h (k + 1)).toNat - (h k).toNat : Nat) : Int) = h (k + 1) - h k by omega] at b
    rw [sumS]
    omega
theorem cells_hi {h g : Nat → Int} {F : Nat → Int} (h0 : h 0 = 0) : ∀ k, (∀ i, i < k → h i ≤ h (i + 1)) → (∀ i, i ≤ k → 0 ≤ h i) → (∀ i, i < k → ∀ t : Nat, h i ≤ t → (t : Int) + 1 ≤ h (i + 1) → F t ≤ g i) → unS F (h k).toNat ≤ sumS h g k
  | 0, _, _, _ => by rw [h0]; exact Int.le_refl _
  | k + 1, hm, hn, hg => by
    have a := cells_hi h0 k (fun i hi => hm i (by omega)) (fun i hi => hn i (by omega)) (fun i hi => hg i (by omega))
    have m := hm k (by omega)
    have n1 := hn k (by omega)
    have n2 := hn (k + 1) (by omega)
    have b := unS_hi (F := F) (g := g k) (a := (h k).toNat) ((h (k + 1)).toNat - (h k).toNat) (fun t h1 h2 => hg k (by omega) t (by omega) (by omega))
    rw [show (h k).toNat + ((h (k + 1)).toNat - (h k).toNat) = (h (k + 1)).toNat by omega, show (((h (k + 1)).toNat - (h k).toNat : Nat) : Int) = h (k + 1) - h k by omega] at b
    rw [sumS]
    omega
theorem unS_mono {F : Nat → Int} (h : ∀ t, 0 ≤ F t) {a b : Nat} (hab : a ≤ b) : unS F a ≤ unS F b := by
  have := unS_lo (F := F) (g := 0) (a := a) (b - a) (fun t _ _ => h t)
  rw [show a + (b - a) = b by omega] at this
  omega
def clF (s o : Int) (t : Nat) : Int := gl s o t ((t : Int) + 1)
/-- Inside up to a height is at most outside up to a greater one. -/
theorem AL_AH {hs hs' : List Int} {o s s' : Int} (h : HOK hs) (h' : HOK hs') (f : hs.getD 0 0 = 0) (f' : hs'.getD 0 0 = 0) (hl : hs.getD (hs.length - 1) 0 ≤ hs'.getD (hs'.length - 1) 0) (s0 : 0 ≤ s) (ss : s ≤ s') (s1 : s' ≤ 100000) : AL hs o s ≤ AH hs' o s' := by
  have l := h.len
  have l' := h'.len
  have a := cells_lo (h := fun i => hs.getD i 0) (g := fun i => gl s o (hs.getD i 0) (hs.getD (i + 1) 0)) (F := clF s o) f (hs.length - 1) (fun i hi => h.up i (by omega)) (fun i hi => (h.rg i (by omega)).1) (fun i hi t h1 h2 => gl_sub s0 (Int.le_refl _) (by omega) ⟨h1, by omega, h2⟩)
  have b := cells_hi (h := fun i => hs'.getD i 0) (g := fun i => gh s' o (hs'.getD i 0) (hs'.getD (i + 1) 0)) (F := clF s o) f' (hs'.length - 1) (fun i hi => h'.up i (by omega)) (fun i hi => (h'.rg i (by omega)).1) (fun i hi t h1 h2 => by
    have x1 := gh_pt (s := s) (s' := s') (o := o) (a := hs'.getD i 0) (b := hs'.getD (i + 1) 0) (x := (t : Int)) s0 ss s1 ⟨h1, by omega⟩
    have x2 := xL_xH (s := s) (d := (t : Int) - o)
    show gl s o t ((t : Int) + 1) ≤ _
    unfold gl
    omega)
  have c := unS_mono (F := clF s o) (fun t => (gl_nn s0 (by omega)).1) (a := (hs.getD (hs.length - 1) 0).toNat) (b := (hs'.getD (hs'.length - 1) 0).toNat) (by omega)
  exact Int.le_trans a (Int.le_trans c b)
end Go.Proofs.YtphipfmidfoflaaGreat
/- Top: the straight line between points. -/
set_option linter.unusedVariables false
set_option linter.unusedSimpArgs false
set_option maxRecDepth 8000
set_option maxHeartbeats 2000000
namespace Go.Proofs.YtphipfmidfoflaaGreat
open Go.Sx Go.RowKit
open Go.Cy (sumS)
/-! ### The straight line between two points -/
def nL (l : List (Int × Int)) (j : Nat) (x : Int) : Int := (pt l j).2 * ((pt l (j + 1)).1 - x) + (pt l (j + 1)).2 * (x - (pt l j).1)
def hL (l : List (Int × Int)) (j : Nat) : Int := (pt l (j + 1)).1 - (pt l j).1
theorem nL_bound {l : List (Int × Int)} (ok : ProfOK l) {j : Nat} (hj : j + 1 < l.length) {x : Int} (h1 : (pt l j).1 ≤ x) (h2 : x ≤ (pt l (j + 1)).1) : hL l j ≤ nL l j x ∧ nL l j x ≤ 100000 * hL l j ∧ 1 ≤ hL l j ∧ hL l j ≤ 100000 := by
  have a := ok.r0 j (by omega)
  have b := ok.r0 (j + 1) hj
  have c := ok.x0 j (by omega)
  have d := ok.x0 (j + 1) hj
  have e := ok.up j hj
  have m1 := Int.mul_le_mul_of_nonneg_right a.1 (show 0 ≤ (pt l (j + 1)).1 - x by omega)
  have m2 := Int.mul_le_mul_of_nonneg_right a.2 (show 0 ≤ (pt l (j + 1)).1 - x by omega)
  have m3 := Int.mul_le_mul_of_nonneg_right b.1 (show 0 ≤ x - (pt l j).1 by omega)
  have m4 := Int.mul_le_mul_of_nonneg_right b.2 (show 0 ≤ x - (pt l j).1 by omega)
  unfold nL hL
  omega
theorem atV_eq {l : List (Int × Int)} (ok : ProfOK l) {j : Nat} (hj : j + 1 < l.length) {x : Int} (h1 : (pt l j).1 ≤ x) (h2 : x ≤ (pt l (j + 1)).1) : atV l x j = (nL l j x / hL l j, (nL l j x + hL l j - 1) / hL l j) := by
  obtain ⟨b1, b2, b3, b4⟩ := nL_bound ok hj h1 h2
  have a := ok.r0 j (by omega)
  have b := ok.r0 (j + 1) hj
  have c := ok.x0 j (by omega)
  have d := ok.x0 (j + 1) hj
  have m1 := mulB (a := (pt l j).2) (b := (pt l (j + 1)).1 - x) (m := 100000) (n := 100000) (by omega) (by omega) (by omega) (by omega)
  have m2 := mulB (a := (pt l (j + 1)).2) (b := x - (pt l j).1) (m := 100000) (n := 100000) (by omega) (by omega) (by omega) (by omega)
  have q1 : 0 ≤ nL l j x / hL l j ∧ nL l j x / hL l j ≤ 100000 := ⟨Int.ediv_nonneg (by omega) (by omega), Int.ediv_le_of_le_mul (by omega) (by omega)⟩
  have q2 : 0 ≤ (nL l j x + hL l j - 1) / hL l j ∧ (nL l j x + hL l j - 1) / hL l j ≤ 100001 := ⟨Int.ediv_nonneg (by omega) (by omega), Int.ediv_le_of_le_mul (by omega) (by omega)⟩
  unfold atV
  simp only
  rw [w64 (x := (pt l (j + 1)).1 - (pt l j).1) (by omega) (by omega), w64 (x := (pt l (j + 1)).1 - x) (by omega) (by omega), w64 (x := x - (pt l j).1) (by omega) (by omega), w64 (x := (pt l j).2 * ((pt l (j + 1)).1 - x)) (by omega) (by omega), w64 (x := (pt l (j + 1)).2 * (x - (pt l j).1)) (by omega) (by omega)]
  rw [show (pt l j).2 * ((pt l (j + 1)).1 - x) + (pt l (j + 1)).2 * (x - (pt l j).1) = nL l j x from rfl, show (pt l (j + 1)).1 - (pt l j).1 = hL l j from rfl]
  rw [w64 (x := nL l j x) (by omega) (by omega), w64 (x := nL l j x + hL l j) (by omega) (by omega), w64 (x := nL l j x + hL l j - 1) (by omega) (by omega), tdiv_ediv (by omega), tdiv_ediv (by omega), w64 (by omega) (by omega), w64 (by omega) (by omega)]
theorem up_lt {l : List (Int × Int)} (ok : ProfOK l) {i j : Nat} (hij : i < j) (hj : j < l.length) : (pt l i).1 < (pt l j).1 := by
  induction j with
  | zero => omega
  | succ j ih =>
    have a := ok.up j (by omega)
    rcases Nat.lt_or_ge i j with h | h
    · have := ih h (by omega); omega
    · rw [show i = j by omega]; exact a
theorem up_le {l : List (Int × Int)} (ok : ProfOK l) {i j : Nat} (hij : i ≤ j) (hj : j < l.length) : (pt l i).1 ≤ (pt l j).1 := by
  rcases Nat.lt_or_ge i j with h | h
  · exact Int.le_of_lt (up_lt ok h hj)
  · rw [show i = j by omega]; exact Int.le_refl _
/-- At each end the line meets the point. -/
theorem nL_end {l : List (Int × Int)} {j : Nat} : nL l j (pt l (j + 1)).1 = (pt l (j + 1)).2 * hL l j ∧ nL l j (pt l j).1 = (pt l j).2 * hL l j := by
  unfold nL hL
  constructor
  · rw [Int.sub_self, Int.mul_zero, Int.zero_add]
  · rw [Int.sub_self, Int.mul_zero, Int.add_zero]
theorem div_end {r H : Int} (h : 1 ≤ H) : r * H / H = r ∧ (r * H + H - 1) / H = r := by
  refine ⟨Int.mul_ediv_cancel _ (by omega), ?_⟩
  rw [show r * H + H - 1 = (H - 1) + r * H by omega, Int.add_mul_ediv_right _ _ (show H ≠ 0 by omega), Int.ediv_eq_zero_of_lt (by omega) (by omega)]
  omega
theorem at_seg {l : List (Int × Int)} (hE : profE l = 0) {j : Nat} (hj : j + 1 < l.length) {x : Int} (h1 : (pt l j).1 ≤ x) (h2 : x ≤ (pt l (j + 1)).1) : profile_At l x = (nL l j x / hL l j, (nL l j x + hL l j - 1) / hL l j, 0) := by
  have ok := profE_ok hE
  have x0 := (ok.x0 j (by omega)).1
  have xl : (pt l (j + 1)).1 ≤ lenP l := up_le ok (by omega) (by omega)
  have key : atM l x = (nL l j x / hL l j, (nL l j x + hL l j - 1) / hL l j) := by
    -- the first point behind x
    have hex : ∃ i, i ≤ j ∧ x ≤ (pt l (i + 1)).1 ∧ ∀ k, k < i → (pt l (k + 1)).1 < x := by
      clear xl x0
      induction j with
      | zero => exact ⟨0, Nat.le_refl _, h2, fun k hk => absurd hk (Nat.not_lt_zero k)⟩
      | succ j ih =>
        rcases Int.lt_or_le (pt l (j + 1)).1 x with h | h
        · exact ⟨j + 1, Nat.le_refl _, h2, fun k hk => Int.lt_of_le_of_lt (up_le ok (by omega) (by omega)) h⟩
        · have : (pt l j).1 ≤ (pt l (j + 1)).1 := up_le ok (by omega) (by omega)
          obtain ⟨i, a, b, c⟩ := ih (by omega) (by omega) h
          exact ⟨i, by omega, b, c⟩
    obtain ⟨i, hi, b, c⟩ := hex
    have hf : atM l x = atV l x i := by
      unfold atM
      rw [find_range (i := i) (by omega) (by simp only [Bool.not_eq_true', decide_eq_false_iff_not]; omega) (fun k hk => by have := c k hk; simp only [Bool.not_eq_false', decide_eq_true_eq]; omega)]
    rw [hf]
    by_cases e : i = j
    · subst e
      exact atV_eq ok hj h1 h2
    · have u1 : (pt l (i + 1)).1 ≤ (pt l j).1 := up_le ok (by omega) (by omega)
      have ex : x = (pt l (i + 1)).1 := by omega
      have ei : i + 1 = j := by
        by_cases e2 : i + 1 = j
        · exact e2
        · have := up_lt ok (i := i + 1) (j := j) (by omega) (by omega); omega
      have u2 : (pt l i).1 ≤ (pt l (i + 1)).1 := up_le ok (by omega) (by omega)
      rw [atV_eq ok (by omega) (by omega) b]
      subst ei
      rw [ex, nL_end.1, nL_end.2]
      have p1 := (nL_bound ok (j := i) (x := x) (by omega) (by omega) b).2.2.1
      have p2 := (nL_bound ok (j := i + 1) (x := x) hj h1 h2).2.2.1
      rw [(div_end p1).1, (div_end p1).2, (div_end p2).1, (div_end p2).2]
  unfold profile_At
  rw [hE, if_neg (by decide), if_neg (by simp only [Bool.or_eq_true, decide_eq_true_eq]; omega), key]
end Go.Proofs.YtphipfmidfoflaaGreat
/- Top: radii of strips. -/
set_option linter.unusedVariables false
set_option linter.unusedSimpArgs false
set_option maxRecDepth 8000
set_option maxHeartbeats 2000000
namespace Go.Proofs.YtphipfmidfoflaaGreat
open Go.Sx Go.RowKit
open Go.Cy (sumS)
/-! ### Two neighbours lie between two points -/
theorem seg_of {l : List (Int × Int)} (ok : ProfOK l) {p : List Int} {b : Int} (hg : Grid p 0 b) (hb : b ≤ lenP l) (hm : ∀ j, j < l.length → (pt l j).1 < b → (pt l j).1 ∈ p) {i : Nat} (hi : i + 1 < p.length) : ∃ j, j + 1 < l.length ∧ (pt l j).1 ≤ p.getD i 0 ∧ p.getD (i + 1) 0 ≤ (pt l (j + 1)).1 := by
  have r1 := hg.range (i := i) (by omega)
  have r2 := hg.range hi
  have r3 := hg.inc i (i + 1) (by omega) hi
  have two := ok.two
  -- the last point that is not behind
  have hex : ∀ n, n < l.length → ∃ j, j ≤ n ∧ (pt l j).1 ≤ p.getD i 0 ∧ ∀ k, j < k → k ≤ n → p.getD i 0 < (pt l k).1 := by
    intro n
    induction n with
    | zero => exact fun _ => ⟨0, Nat.le_refl _, by rw [ok.zero]; omega, fun k h1 h2 => by omega⟩
    | succ n ih =>
      intro hn
      rcases Int.lt_or_le (p.getD i 0) (pt l (n + 1)).1 with h | h
      · obtain ⟨j, a, b, c⟩ := ih (by omega)
        refine ⟨j, by omega, b, fun k h1 h2 => ?_⟩
        by_cases e : k = n + 1
        · subst e; exact h
        · exact c k h1 (by omega)
      · exact ⟨n + 1, Nat.le_refl _, h, fun k h1 h2 => by omega⟩
  obtain ⟨j, h1, h2, h3⟩ := hex (l.length - 1) (by omega)
  have hj : j + 1 < l.length := by
    rcases Nat.lt_or_ge (j + 1) l.length with h | h
    · exact h
    · rw [show j = l.length - 1 by omega] at h2
      have : lenP l ≤ p.getD i 0 := h2
      omega
  refine ⟨j, hj, h2, ?_⟩
  have h4 := h3 (j + 1) (by omega) (by omega)
  rcases Int.lt_or_le (pt l (j + 1)).1 (p.getD (i + 1) 0) with h | h
  · obtain ⟨q, hq, eq⟩ := mem_at.1 (hm (j + 1) hj (by omega))
    rcases Nat.lt_or_ge q (i + 1) with g | g
    · have := hg.mono (i := q) (j := i) (by omega) (by omega); omega
    · have := hg.mono (i := i + 1) (j := q) g hq; omega
  · exact h
theorem ceil_ge {N H : Int} (h : 1 ≤ H) : N ≤ (N + H - 1) / H * H := by
  have a := Int.emod_add_mul_ediv (N + H - 1) H
  have b := Int.emod_lt_of_pos (N + H - 1) (show 0 < H by omega)
  rw [Int.mul_comm] at a
  omega
theorem floor_le {N H : Int} (h : 1 ≤ H) : N / H * H ≤ N := Int.ediv_mul_le N (by omega)
/-- What is known of the radii of a strip between two points. -/
theorem sl_bounds {l : List (Int × Int)} (hE : profE l = 0) {p : List Int} {i j : Nat} (hj : j + 1 < l.length) (h1 : (pt l j).1 ≤ p.getD i 0) (h2 : p.getD i 0 ≤ p.getD (i + 1) 0) (h3 : p.getD (i + 1) 0 ≤ (pt l (j + 1)).1) :
    (1 ≤ slB l p i ∧ slB l p i ≤ slC l p i ∧ slC l p i ≤ 100000) ∧ (slB l p i * hL l j ≤ nL l j (p.getD i 0) ∧ slB l p i * hL l j ≤ nL l j (p.getD (i + 1) 0)) ∧ (nL l j (p.getD i 0) ≤ slC l p i * hL l j ∧ nL l j (p.getD (i + 1) 0) ≤ slC l p i * hL l j) := by
  have ok := profE_ok hE
  obtain ⟨a1, a2, a3, a4⟩ := nL_bound ok hj (x := p.getD i 0) h1 (by omega)
  obtain ⟨b1, b2, _, _⟩ := nL_bound ok hj (x := p.getD (i + 1) 0) (by omega) h3
  unfold slB slC
  rw [at_seg hE hj h1 (by omega), at_seg hE hj (by omega) h3]
  simp only
  generalize hL l j = H at *
  generalize nL l j (p.getD i 0) = N at *
  generalize nL l j (p.getD (i + 1) 0) = M at *
  have c1 := floor_le (N := N) (H := H) a3
  have c2 := floor_le (N := M) (H := H) a3
  have c3 := ceil_ge (N := N) (H := H) a3
  have c4 := ceil_ge (N := M) (H := H) a3
  have d1 : 1 ≤ N / H := (Int.le_ediv_iff_mul_le (by omega)).2 (by omega)
  have d2 : 1 ≤ M / H := (Int.le_ediv_iff_mul_le (by omega)).2 (by omega)
  have d3 : (N + H - 1) / H ≤ 100000 := by
    have : (N + H - 1) / H < 100001 := Int.ediv_lt_of_lt_mul (by omega) (by omega)
    omega
  have d4 : (M + H - 1) / H ≤ 100000 := by
    have : (M + H - 1) / H < 100001 := Int.ediv_lt_of_lt_mul (by omega) (by omega)
    omega
  have d5 : N / H ≤ (N + H - 1) / H := Int.ediv_le_ediv (by omega) (by omega)
  have d6 : M / H ≤ (M + H - 1) / H := Int.ediv_le_ediv (by omega) (by omega)
  have k1 : ∀ {x y : Int}, x ≤ y → x * H ≤ y * H := fun h => Int.mul_le_mul_of_nonneg_right h (by omega)
  refine ⟨⟨?_, ?_, ?_⟩, ⟨?_, ?_⟩, ⟨?_, ?_⟩⟩
  · split <;> omega
  · split <;> split <;> omega
  · split <;> omega
  · split
    · rename_i g; have := k1 (Int.le_of_lt g); omega
    · exact c1
  · split
    · exact c2
    · rename_i g; have := k1 (show N / H ≤ M / H by omega); omega
  · split
    · rename_i g; have := k1 (Int.le_of_lt g); omega
    · exact c3
  · split
    · exact c4
    · rename_i g; have := k1 (show (M + H - 1) / H ≤ (N + H - 1) / H by omega); omega
end Go.Proofs.YtphipfmidfoflaaGreat
/- Top: frustums and strips. -/
set_option linter.unusedVariables false
set_option linter.unusedSimpArgs false
set_option maxRecDepth 8000
set_option maxHeartbeats 2000000
namespace Go.Proofs.YtphipfmidfoflaaGreat
open Go.Sx Go.RowKit
open Go.Cy (sumS)
/-! ### Three times the squares on a straight line -/
def tq (d n m : Int) : Int := d * (n * n + n * m + m * m)
theorem tq_add {c u v w N M K : Int} (h1 : M = N + c * (v - u)) (h2 : K = N + c * (w - u)) : tq (v - u) N M + tq (w - v) M K = tq (w - u) N K := by
  unfold tq
  subst h1 h2
  grind
theorem nL_lin {l : List (Int × Int)} {j : Nat} {x y : Int} : nL l j y = nL l j x + ((pt l (j + 1)).2 - (pt l j).2) * (y - x) := by
  unfold nL
  generalize (pt l (j + 1)).2 = a
  generalize (pt l j).2 = b
  generalize (pt l (j + 1)).1 = c
  generalize (pt l j).1 = d
  grind
theorem tq_lo {d x N M : Int} (h : 0 ≤ d) (h0 : 0 ≤ x) (h1 : x ≤ N) (h2 : x ≤ M) : 3 * (d * (x * x)) ≤ tq d N M := by
  have a := Int.mul_le_mul h1 h1 h0 (show 0 ≤ N by omega)
  have b := Int.mul_le_mul h1 h2 h0 (show 0 ≤ N by omega)
  have c := Int.mul_le_mul h2 h2 h0 (show 0 ≤ M by omega)
  have e := Int.mul_le_mul_of_nonneg_left (show 3 * (x * x) ≤ N * N + N * M + M * M by omega) h
  rw [Int.mul_left_comm] at e
  exact e
theorem tq_hi {d x N M : Int} (h : 0 ≤ d) (n0 : 0 ≤ N) (m0 : 0 ≤ M) (h1 : N ≤ x) (h2 : M ≤ x) : tq d N M ≤ 3 * (d * (x * x)) := by
  have a := Int.mul_le_mul h1 h1 n0 (show 0 ≤ x by omega)
  have b := Int.mul_le_mul h1 h2 m0 (show 0 ≤ x by omega)
  have c := Int.mul_le_mul h2 h2 m0 (show 0 ≤ x by omega)
  have e := Int.mul_le_mul_of_nonneg_left (show N * N + N * M + M * M ≤ 3 * (x * x) by omega) h
  rw [Int.mul_left_comm d 3] at e
  exact e
def tL (l : List (Int × Int)) (j : Nat) (x : Int) : Int := tq (x - (pt l j).1) (nL l j (pt l j).1) (nL l j x)
theorem tL_step {l : List (Int × Int)} {j : Nat} {u v : Int} : tL l j u + tq (v - u) (nL l j u) (nL l j v) = tL l j v := tq_add nL_lin nL_lin
theorem tL_zero {l : List (Int × Int)} {j : Nat} : tL l j (pt l j).1 = 0 := by
  unfold tL tq
  rw [Int.sub_self, Int.zero_mul]
theorem Fq_succ {l : List (Int × Int)} {j : Nat} : Fq l (j + 1) = Fq l j + hL l j * ((pt l j).2 * (pt l j).2 + (pt l j).2 * (pt l (j + 1)).2 + (pt l (j + 1)).2 * (pt l (j + 1)).2) := rfl
theorem tL_end {l : List (Int × Int)} {j : Nat} : tL l j (pt l (j + 1)).1 = hL l j * hL l j * (Fq l (j + 1) - Fq l j) := by
  unfold tL
  rw [nL_end.1, nL_end.2, Fq_succ]
  rw [show (pt l (j + 1)).1 - (pt l j).1 = hL l j from rfl]
  generalize hL l j = H
  generalize (pt l (j + 1)).2 = a
  generalize (pt l j).2 = b
  generalize Fq l j = f
  unfold tq
  grind
theorem hL_pos {l : List (Int × Int)} (ok : ProfOK l) {j : Nat} (hj : j + 1 < l.length) : 0 < hL l j * hL l j := by
  have := ok.up j hj
  have h : 0 < hL l j := by unfold hL; omega
  exact Int.mul_pos h h
theorem Fq_mono {l : List (Int × Int)} (ok : ProfOK l) {i : Nat} : ∀ k, i ≤ k → k < l.length → Fq l i ≤ Fq l k
  | 0, h, _ => by rw [show i = 0 by omega]; exact Int.le_refl _
  | k + 1, h, hk => by
    by_cases e : i = k + 1
    · rw [e]; exact Int.le_refl _
    · have a := Fq_mono ok (i := i) k (by omega) (by omega)
      have b := ok.up k hk
      have c := ok.r0 k (by omega)
      have d := ok.r0 (k + 1) hk
      have x1 := Int.mul_nonneg (a := (pt l k).2) (b := (pt l k).2) (by omega) (by omega)
      have x2 := Int.mul_nonneg (a := (pt l k).2) (b := (pt l (k + 1)).2) (by omega) (by omega)
      have x3 := Int.mul_nonneg (a := (pt l (k + 1)).2) (b := (pt l (k + 1)).2) (by omega) (by omega)
      have x4 := Int.mul_nonneg (a := hL l k) (b := (pt l k).2 * (pt l k).2 + (pt l k).2 * (pt l (k + 1)).2 + (pt l (k + 1)).2 * (pt l (k + 1)).2) (by unfold hL; omega) (by omega)
      rw [Fq_succ]
      omega
theorem sq_out {d x H : Int} : d * ((x * H) * (x * H)) = H * H * (d * (x * x)) := by grind
/-! ### Strips inside and outside the frustums -/
def sqB (l : List (Int × Int)) (p : List Int) (k : Nat) : Int := sumS (fun i => p.getD i 0) (fun i => slB l p i * slB l p i) k
def sqC (l : List (Int × Int)) (p : List Int) (k : Nat) : Int := sumS (fun i => p.getD i 0) (fun i => slC l p i * slC l p i) k
theorem fr_step {l : List (Int × Int)} (hE : profE l = 0) {p : List Int} {b : Int} (hg : Grid p 0 b) (hb : b ≤ lenP l) (hm : ∀ j, j < l.length → (pt l j).1 < b → (pt l j).1 ∈ p) : ∀ k, k < p.length → ∀ j, j + 1 < l.length → (pt l j).1 ≤ p.getD k 0 → p.getD k 0 ≤ (pt l (j + 1)).1 →
    hL l j * hL l j * (3 * sqB l p k - Fq l j) ≤ tL l j (p.getD k 0) ∧ tL l j (p.getD k 0) ≤ hL l j * hL l j * (3 * sqC l p k - Fq l j)
  | 0, hk, j, hj, h1, h2 => by
    have ok := profE_ok hE
    have e0 : p.getD 0 0 = 0 := hg.fst
    have hz : j = 0 := by
      rcases Nat.eq_zero_or_pos j with h | h
      · exact h
      · have a := up_lt ok (i := 0) (j := j) h (by omega)
        have b := ok.zero
        omega
    subst hz
    have e : p.getD 0 0 = (pt l 0).1 := by rw [e0, ok.zero]
    rw [e, tL_zero]
    simp [sqB, sqC, sumS, Fq]
  | k + 1, hk, j, hj, h1, h2 => by
    have ok := profE_ok hE
    obtain ⟨j0, hj0, s1, s2⟩ := seg_of ok hg hb hm hk
    have hlt := hg.inc k (k + 1) (by omega) hk
    obtain ⟨i1, i2⟩ := fr_step hE hg hb hm k (by omega) j0 hj0 s1 (by omega)
    obtain ⟨⟨b1, b2, b3⟩, ⟨b4, b5⟩, ⟨b6, b7⟩⟩ := sl_bounds hE hj0 s1 (by omega) s2
    obtain ⟨n1, n2, n3, n4⟩ := nL_bound ok hj0 (x := p.getD k 0) s1 (by omega)
    obtain ⟨n5, n6, _, _⟩ := nL_bound ok hj0 (x := p.getD (k + 1) 0) (by omega) s2
    have st := tL_step (l := l) (j := j0) (u := p.getD k 0) (v := p.getD (k + 1) 0)
    have x0 : 0 ≤ slB l p k * hL l j0 := Int.mul_nonneg (by omega) (by omega)
    have q1 := tq_lo (d := p.getD (k + 1) 0 - p.getD k 0) (by omega) x0 b4 b5
    have q2 := tq_hi (d := p.getD (k + 1) 0 - p.getD k 0) (by omega) (by omega) (by omega) b6 b7
    rw [sq_out] at q1 q2
    have eB : sqB l p (k + 1) = sqB l p k + (p.getD (k + 1) 0 - p.getD k 0) * (slB l p k * slB l p k) := rfl
    have eC : sqC l p (k + 1) = sqC l p k + (p.getD (k + 1) 0 - p.getD k 0) * (slC l p k * slC l p k) := rfl
    have key : hL l j0 * hL l j0 * (3 * sqB l p (k + 1) - Fq l j0) ≤ tL l j0 (p.getD (k + 1) 0) ∧ tL l j0 (p.getD (k + 1) 0) ≤ hL l j0 * hL l j0 * (3 * sqC l p (k + 1) - Fq l j0) := by
      rw [eB, eC, ← st]
      generalize hL l j0 * hL l j0 = W at *
      generalize (p.getD (k + 1) 0 - p.getD k 0) * (slB l p k * slB l p k) = X at *
      generalize (p.getD (k + 1) 0 - p.getD k 0) * (slC l p k * slC l p k) = Y at *
      have e1 : W * (3 * (sqB l p k + X) - Fq l j0) = W * (3 * sqB l p k - Fq l j0) + 3 * (W * X) := by grind
      have e2 : W * (3 * (sqC l p k + Y) - Fq l j0) = W * (3 * sqC l p k - Fq l j0) + 3 * (W * Y) := by grind
      rw [e1, e2]
      omega
    have u1 : j0 ≤ j := by
      rcases Nat.lt_or_ge j j0 with h | h
      · have := up_le ok (i := j + 1) (j := j0) h (by omega)
        omega
      · exact h
    have u2 : j ≤ j0 + 1 := by
      rcases Nat.lt_or_ge (j0 + 1) j with h | h
      · have := up_lt ok (i := j0 + 1) (j := j) h (by omega)
        omega
      · exact h
    by_cases e : j = j0
    · subst e; exact key
    · have ej : j = j0 + 1 := by omega
      subst ej
      have ex : p.getD (k + 1) 0 = (pt l (j0 + 1)).1 := by omega
      rw [ex, tL_end] at key
      rw [ex, tL_zero]
      have w := hL_pos ok hj0
      have w' := hL_pos ok hj
      have k1 := Int.le_of_mul_le_mul_left key.1 w
      have k2 := Int.le_of_mul_le_mul_left key.2 w
      constructor
      · have := Int.mul_nonneg (Int.le_of_lt w') (show 0 ≤ Fq l (j0 + 1) - 3 * sqB l p (k + 1) by omega)
        rw [show Fq l (j0 + 1) - 3 * sqB l p (k + 1) = -(3 * sqB l p (k + 1) - Fq l (j0 + 1)) by omega, Int.mul_neg] at this
        omega
      · exact Int.mul_nonneg (Int.le_of_lt w') (by omega)
theorem fr_lo {l : List (Int × Int)} (hE : profE l = 0) {p : List Int} {b : Int} (hg : Grid p 0 b) (hb : b ≤ lenP l) (hm : ∀ j, j < l.length → (pt l j).1 < b → (pt l j).1 ∈ p) : 3 * sqB l p (p.length - 1) ≤ Fq l (l.length - 1) := by
  have ok := profE_ok hE
  have hl := hg.len
  rcases Nat.lt_or_ge 1 p.length with h | h
  · obtain ⟨j, hj, s1, s2⟩ := seg_of ok hg hb hm (i := p.length - 2) (by omega)
    rw [show p.length - 2 + 1 = p.length - 1 by omega] at s2
    have s3 := hg.mono (i := p.length - 2) (j := p.length - 1) (by omega) (by omega)
    obtain ⟨a, _⟩ := fr_step hE hg hb hm (p.length - 1) (by omega) j hj (by omega) s2
    obtain ⟨n5, n6, n7, _⟩ := nL_bound ok hj (x := p.getD (p.length - 1) 0) (by omega) s2
    obtain ⟨m5, m6, _, _⟩ := nL_bound ok hj (x := (pt l (j + 1)).1) (by omega) (Int.le_refl _)
    have st := tL_step (l := l) (j := j) (u := p.getD (p.length - 1) 0) (v := (pt l (j + 1)).1)
    have q := tq_lo (d := (pt l (j + 1)).1 - p.getD (p.length - 1) 0) (x := 0) (N := nL l j (p.getD (p.length - 1) 0)) (M := nL l j (pt l (j + 1)).1) (by omega) (Int.le_refl _) (by omega) (by omega)
    rw [tL_end] at st
    have k1 := Int.le_of_mul_le_mul_left (Int.le_trans a (show _ ≤ hL l j * hL l j * (Fq l (j + 1) - Fq l j) by omega)) (hL_pos ok hj)
    have k2 := Fq_mono ok (i := j + 1) (l.length - 1) (by omega) (by omega)
    omega
  · rw [show p.length - 1 = 0 by omega]
    have := (Fq_bound ok).2.1
    simp [sqB, sumS]
    omega
theorem fr_hi {l : List (Int × Int)} (hE : profE l = 0) {p : List Int} (hg : Grid p 0 (lenP l)) (hm : ∀ j, j < l.length → (pt l j).1 < lenP l → (pt l j).1 ∈ p) : Fq l (l.length - 1) ≤ 3 * sqC l p (p.length - 1) := by
  have ok := profE_ok hE
  have hl := hg.len
  have two := ok.two
  have e : p.getD (p.length - 1) 0 = (pt l (l.length - 2 + 1)).1 := by rw [hg.lst, show l.length - 2 + 1 = l.length - 1 by omega]; rfl
  have up := ok.up (l.length - 2) (by omega)
  obtain ⟨_, a⟩ := fr_step hE hg (Int.le_refl _) hm (p.length - 1) (by omega) (l.length - 2) (by omega) (by omega) (by omega)
  rw [e, tL_end] at a
  have := Int.le_of_mul_le_mul_left a (hL_pos ok (by omega))
  rw [show l.length - 2 + 1 = l.length - 1 by omega] at this
  omega
end Go.Proofs.YtphipfmidfoflaaGreat
/- Top: grids within grids. -/
set_option linter.unusedVariables false
set_option linter.unusedSimpArgs false
set_option maxRecDepth 8000
set_option maxHeartbeats 2000000
namespace Go.Proofs.YtphipfmidfoflaaGreat
open Go.Sx Go.RowKit
open Go.Cy (sumS)
/-! ### Grids within grids -/
def ixG (e : List Int) (t : Int) : Nat → Nat
  | 0 => 0
  | k + 1 => if e.getD (k + 1) 0 ≤ t then k + 1 else ixG e t k
theorem ixG_eq {e : List Int} {b : Int} (he : Grid e 0 b) {i : Nat} (hi : i + 1 < e.length) {t : Int} (h1 : e.getD i 0 ≤ t) (h2 : t < e.getD (i + 1) 0) : ∀ k, i ≤ k → k < e.length → ixG e t k = i
  | 0, h, _ => by rw [show i = 0 by omega]; rfl
  | k + 1, h, hk => by
    rw [ixG]
    by_cases c : i = k + 1
    · subst c
      rw [if_pos h1]
    · have := he.mono (i := i + 1) (j := k + 1) (by omega) hk
      rw [if_neg (by omega)]
      exact ixG_eq he hi h1 h2 k (by omega) (by omega)
theorem strip_of {e : List Int} {t : Int} (h0 : e.getD 0 0 ≤ t) : ∀ k, t < e.getD k 0 → ∃ i, i + 1 ≤ k ∧ e.getD i 0 ≤ t ∧ t < e.getD (i + 1) 0
  | 0, h => by omega
  | k + 1, h => by
    rcases Int.lt_or_le t (e.getD k 0) with c | c
    · obtain ⟨i, a, b⟩ := strip_of h0 k c
      exact ⟨i, by omega, b⟩
    · exact ⟨k, Nat.le_refl _, c, h⟩
theorem within {p e : List Int} {b b' : Int} (hp : Grid p 0 b) (he : Grid e 0 b') (hs : ∀ x, x ∈ p → x ∈ e) {i q : Nat} (hi : i + 1 < p.length) (hq : q + 1 < e.length) {t : Int} (h1 : p.getD i 0 ≤ t) (h2 : t < p.getD (i + 1) 0) (h3 : e.getD q 0 ≤ t) (h4 : t < e.getD (q + 1) 0) : p.getD i 0 ≤ e.getD q 0 ∧ e.getD (q + 1) 0 ≤ p.getD (i + 1) 0 := by
  obtain ⟨x, hx, ex⟩ := mem_at.1 (hs _ (mem_at.2 ⟨i, by omega, rfl⟩))
  obtain ⟨y, hy, ey⟩ := mem_at.1 (hs _ (mem_at.2 ⟨i + 1, hi, rfl⟩))
  constructor
  · rcases Nat.lt_or_ge q x with c | c
    · have := he.mono (i := q + 1) (j := x) c hx
      omega
    · have := he.mono (i := x) (j := q) c (by omega)
      omega
  · rcases Nat.lt_or_ge q y with c | c
    · have := he.mono (i := q + 1) (j := y) c hy
      omega
    · have := he.mono (i := y) (j := q) c (by omega)
      omega
/-- A finer grid with no less over each strip. -/
theorem grid_le {p e : List Int} {b : Int} (hp : Grid p 0 b) (he : Grid e 0 b) (hs : ∀ x, x ∈ p → x ∈ e) {g g' : Nat → Int} (h : ∀ i q, i + 1 < p.length → q + 1 < e.length → p.getD i 0 ≤ e.getD q 0 → e.getD (q + 1) 0 ≤ p.getD (i + 1) 0 → g i ≤ g' q) :
    sumS (fun i => p.getD i 0) g (p.length - 1) ≤ sumS (fun i => e.getD i 0) g' (e.length - 1) := by
  have lp := hp.len
  have le := he.len
  have a := cells_lo (h := fun i => p.getD i 0) (g := g) (F := fun t => g' (ixG e t (e.length - 1))) hp.fst (p.length - 1) (fun i hi => hp.mono (by omega) (by omega)) (fun i hi => (hp.range (by omega)).1) (fun i hi t h1 h2 => by
    have r := hp.range (i := i + 1) (by omega)
    obtain ⟨q, hq, q1, q2⟩ := strip_of (e := e) (t := (t : Int)) (by rw [he.fst]; omega) (e.length - 1) (by rw [he.lst]; omega)
    obtain ⟨w1, w2⟩ := within hp he hs (by omega) (by omega) h1 (by omega) q1 q2
    show g i ≤ g' (ixG e t (e.length - 1))
    rw [ixG_eq he (by omega) q1 q2 _ (by omega) (by omega)]
    exact h i q (by omega) (by omega) w1 w2)
  have c := cells_hi (h := fun i => e.getD i 0) (g := g') (F := fun t => g' (ixG e t (e.length - 1))) he.fst (e.length - 1) (fun i hi => he.mono (by omega) (by omega)) (fun i hi => (he.range (by omega)).1) (fun q hq t h1 h2 => by
    show g' (ixG e t (e.length - 1)) ≤ g' q
    rw [ixG_eq he (by omega) h1 (by omega) _ (by omega) (by omega)]
    exact Int.le_refl _)
  have e1 := hp.lst
  have e2 := he.lst
  simp only [e1, e2] at a c
  exact Int.le_trans a c
theorem grid_ge {p e : List Int} {b : Int} (hp : Grid p 0 b) (he : Grid e 0 b) (hs : ∀ x, x ∈ p → x ∈ e) {g g' : Nat → Int} (h : ∀ i q, i + 1 < p.length → q + 1 < e.length → p.getD i 0 ≤ e.getD q 0 → e.getD (q + 1) 0 ≤ p.getD (i + 1) 0 → g' q ≤ g i) :
    sumS (fun i => e.getD i 0) g' (e.length - 1) ≤ sumS (fun i => p.getD i 0) g (p.length - 1) := by
  have lp := hp.len
  have le := he.len
  have a := cells_hi (h := fun i => p.getD i 0) (g := g) (F := fun t => g' (ixG e t (e.length - 1))) hp.fst (p.length - 1) (fun i hi => hp.mono (by omega) (by omega)) (fun i hi => (hp.range (by omega)).1) (fun i hi t h1 h2 => by
    have r := hp.range (i := i + 1) (by omega)
    obtain ⟨q, hq, q1, q2⟩ := strip_of (e := e) (t := (t : Int)) (by rw [he.fst]; omega) (e.length - 1) (by rw [he.lst]; omega)
    obtain ⟨w1, w2⟩ := within hp he hs (by omega) (by omega) h1 (by omega) q1 q2
    show g' (ixG e t (e.length - 1)) ≤ g i
    rw [ixG_eq he (by omega) q1 q2 _ (by omega) (by omega)]
    exact h i q (by omega) (by omega) w1 w2)
  have c := cells_lo (h := fun i => e.getD i 0) (g := g') (F := fun t => g' (ixG e t (e.length - 1))) he.fst (e.length - 1) (fun i hi => he.mono (by omega) (by omega)) (fun i hi => (he.range (by omega)).1) (fun q hq t h1 h2 => by
    show g' q ≤ g' (ixG e t (e.length - 1))
    rw [ixG_eq he (by omega) h1 (by omega) _ (by omega) (by omega)]
    exact Int.le_refl _)
  have e1 := hp.lst
  have e2 := he.lst
  simp only [e1, e2] at a c
  exact Int.le_trans c a
/-! ### Radii within a strip -/
theorem sl_pt {l : List (Int × Int)} (hE : profE l = 0) {p : List Int} {i j : Nat} (hj : j + 1 < l.length) (h1 : (pt l j).1 ≤ p.getD i 0) (h3 : p.getD (i + 1) 0 ≤ (pt l (j + 1)).1) {x : Int} (hx1 : p.getD i 0 ≤ x) (hx2 : x ≤ p.getD (i + 1) 0) :
    slB l p i ≤ (profile_At l x).1 ∧ (profile_At l x).1 ≤ (profile_At l x).2.1 ∧ (profile_At l x).2.1 ≤ slC l p i := by
  have ok := profE_ok hE
  obtain ⟨a1, a2, a3, a4⟩ := nL_bound ok hj (x := x) (by omega) (by omega)
  have e1 := nL_lin (l := l) (j := j) (x := p.getD i 0) (y := x)
  have e2 := nL_lin (l := l) (j := j) (x := x) (y := p.getD (i + 1) 0)
  unfold slB slC
  rw [at_seg hE hj h1 (by omega), at_seg hE hj (x := p.getD (i + 1) 0) (by omega) h3, at_seg hE hj (x := x) (by omega) (by omega)]
  simp only
  generalize hL l j = H at *
  generalize nL l j (p.getD i 0) = N at *
  generalize nL l j (p.getD (i + 1) 0) = M at *
  generalize nL l j x = K at *
  have d5 : K / H ≤ (K + H - 1) / H := Int.ediv_le_ediv (by omega) (by omega)
  rcases Int.le_total 0 ((pt l (j + 1)).2 - (pt l j).2) with hc | hc
  · have m1 := Int.mul_nonneg hc (show 0 ≤ x - p.getD i 0 by omega)
    have m2 := Int.mul_nonneg hc (show 0 ≤ p.getD (i + 1) 0 - x by omega)
    have d1 : N / H ≤ K / H := Int.ediv_le_ediv (by omega) (by omega)
    have d2 : K / H ≤ M / H := Int.ediv_le_ediv (by omega) (by omega)
    have d3 : (N + H - 1) / H ≤ (K + H - 1) / H := Int.ediv_le_ediv (by omega) (by omega)
    have d4 : (K + H - 1) / H ≤ (M + H - 1) / H := Int.ediv_le_ediv (by omega) (by omega)
    refine ⟨?_, d5, ?_⟩
    · split <;> omega
    · split <;> omega
  · have m1 := Int.mul_nonneg (show 0 ≤ -((pt l (j + 1)).2 - (pt l j).2) by omega) (show 0 ≤ x - p.getD i 0 by omega)
    have m2 := Int.mul_nonneg (show 0 ≤ -((pt l (j + 1)).2 - (pt l j).2) by omega) (show 0 ≤ p.getD (i + 1) 0 - x by omega)
    rw [Int.neg_mul] at m1 m2
    have d1 : K / H ≤ N / H := Int.ediv_le_ediv (by omega) (by omega)
    have d2 : M / H ≤ K / H := Int.ediv_le_ediv (by omega) (by omega)
    have d3 : (K + H - 1) / H ≤ (N + H - 1) / H := Int.ediv_le_ediv (by omega) (by omega)
    have d4 : (M + H - 1) / H ≤ (K + H - 1) / H := Int.ediv_le_ediv (by omega) (by omega)
    refine ⟨?_, d5, ?_⟩
    · split <;> omega
    · split <;> omega
theorem sl_in {l : List (Int × Int)} (hE : profE l = 0) {p e : List Int} {i q j : Nat} (hj : j + 1 < l.length) (h1 : (pt l j).1 ≤ p.getD i 0) (h3 : p.getD (i + 1) 0 ≤ (pt l (j + 1)).1) (w1 : p.getD i 0 ≤ e.getD q 0) (w : e.getD q 0 ≤ e.getD (q + 1) 0) (w2 : e.getD (q + 1) 0 ≤ p.getD (i + 1) 0) : slB l p i ≤ slB l e q ∧ slC l e q ≤ slC l p i := by
  obtain ⟨a1, a2, a3⟩ := sl_pt hE hj h1 h3 (x := e.getD q 0) w1 (by omega)
  obtain ⟨b1, b2, b3⟩ := sl_pt hE hj h1 h3 (x := e.getD (q + 1) 0) (by omega) w2
  constructor
  · rw [slB.eq_def l e q]
    split
    · exact b1
    · exact a1
  · rw [slC.eq_def l e q]
    split
    · exact b3
    · exact a3
/-! ### Levels of standing casks -/
structure LvOK (l : List (Int × Int)) (lv : List Int) (b : Int) : Prop where
  g : Grid lv 0 b
  le : b ≤ lenP l
  pts : ∀ j, j < l.length → (pt l j).1 < b → (pt l j).1 ∈ lv
theorem LvOK.sl {l : List (Int × Int)} {lv : List Int} {b : Int} (hE : profE l = 0) (h : LvOK l lv b) {i : Nat} (hi : i + 1 < lv.length) : 1 ≤ slB l lv i ∧ slB l lv i ≤ slC l lv i ∧ slC l lv i ≤ 100000 := by
  obtain ⟨j, hj, s1, s2⟩ := seg_of (profE_ok hE) h.g h.le h.pts hi
  exact (sl_bounds hE hj s1 (h.g.mono (by omega) hi) s2).1
theorem sq_le_sq {a b : Int} (h0 : 0 ≤ a) (h : a ≤ b) : a * a ≤ b * b := Int.mul_le_mul h h h0 (by omega)
theorem sq_finer {l : List (Int × Int)} {p e : List Int} {b : Int} (hE : profE l = 0) (hp : LvOK l p b) (he : LvOK l e b) (hs : ∀ x, x ∈ p → x ∈ e) : sqB l p (p.length - 1) ≤ sqB l e (e.length - 1) ∧ sqC l e (e.length - 1) ≤ sqC l p (p.length - 1) := by
  constructor
  · refine grid_le hp.g he.g hs fun i q hi hq w1 w2 => ?_
    obtain ⟨j, hj, s1, s2⟩ := seg_of (profE_ok hE) hp.g hp.le hp.pts hi
    have a := (sl_in hE hj s1 s2 w1 (he.g.mono (by omega) hq) w2).1
    exact sq_le_sq (by have := (hp.sl hE hi).1; omega) a
  · refine grid_ge hp.g he.g hs fun i q hi hq w1 w2 => ?_
    obtain ⟨j, hj, s1, s2⟩ := seg_of (profE_ok hE) hp.g hp.le hp.pts hi
    have a := (sl_in hE hj s1 s2 w1 (he.g.mono (by omega) hq) w2).2
    have c := he.sl hE hq
    exact sq_le_sq (by omega) a
def atF (l : List (Int × Int)) (t : Nat) : Int := (profile_At l t).1 * (profile_At l t).1
theorem atF_nn (l : List (Int × Int)) (t : Nat) : 0 ≤ atF l t := by
  unfold atF
  rcases Int.le_total 0 (profile_At l t).1 with h | h
  · exact Int.mul_nonneg h h
  · have := Int.mul_nonneg (a := -(profile_At l t).1) (b := -(profile_At l t).1) (by omega) (by omega)
    rwa [Int.neg_mul_neg] at this
theorem sqB_sqC {l : List (Int × Int)} {p e : List Int} {b b' : Int} (hE : profE l = 0) (hp : LvOK l p b) (he : LvOK l e b') (hb : b ≤ b') : sqB l p (p.length - 1) ≤ sqC l e (e.length - 1) := by
  have lp := hp.g.len
  have le := he.g.len
  have a := cells_lo (h := fun i => p.getD i 0) (g := fun i => slB l p i * slB l p i) (F := atF l) hp.g.fst (p.length - 1) (fun i hi => hp.g.mono (by omega) (by omega)) (fun i hi => (hp.g.range (by omega)).1) (fun i hi t h1 h2 => by
    obtain ⟨j, hj, s1, s2⟩ := seg_of (profE_ok hE) hp.g hp.le hp.pts (i := i) (by omega)
    have c := (sl_pt hE hj s1 s2 (x := (t : Int)) h1 (by omega)).1
    exact sq_le_sq (by have := (hp.sl hE (i := i) (by omega)).1; omega) c)
  have c := cells_hi (h := fun i => e.getD i 0) (g := fun i => slC l e i * slC l e i) (F := atF l) he.g.fst (e.length - 1) (fun i hi => he.g.mono (by omega) (by omega)) (fun i hi => (he.g.range (by omega)).1) (fun i hi t h1 h2 => by
    obtain ⟨j, hj, s1, s2⟩ := seg_of (profE_ok hE) he.g he.le he.pts (i := i) (by omega)
    have c := sl_pt hE hj s1 s2 (x := (t : Int)) h1 (by omega)
    have d := (he.sl hE (i := i) (by omega)).1
    exact sq_le_sq (by omega) (by omega))
  have e1 := hp.g.lst
  have e2 := he.g.lst
  simp only [e1, e2] at a c
  have n1 := (hp.g.range (i := p.length - 1) (by omega)).1
  rw [hp.g.lst] at n1
  have m := unS_mono (F := atF l) (atF_nn l) (a := b.toNat) (b := b'.toNat) (by omega)
  exact Int.le_trans a (Int.le_trans m c)
end Go.Proofs.YtphipfmidfoflaaGreat
/- Top: few casks, copies of casks. -/
set_option linter.unusedVariables false
set_option linter.unusedSimpArgs false
set_option maxRecDepth 8000
set_option maxHeartbeats 2000000
namespace Go.Proofs.YtphipfmidfoflaaGreat
open Go.Sx Go.RowKit
/-! ### Few casks, and copies -/
theorem few8_any (B : Option Addr) (n d : Nat) (w : World) : Calls Tryz.prog 23 #[.slice B n d] w fun e w' => e = .returned (.bool (decide ((n : Int) ≤ 33))) ∧ Below w.heap.size w w' := by
  refine enterPlain tfine Tryz.func23 rfl 6 Tryz.ntmps23 [.c (.k (.slice B n d))] [] rfl rfl trivial ⟨trivial, trivial⟩ ?_
  refine G.seqR tfine rfl trivial ?_
  refine G.seqR tfine rfl trivial ?_
  exact G.ret (endK.ret rfl rfl)
def caskV (s : ByteArray) (pos : Int) (v : Value) (decl : Int) : List Value := [.string s, I pos, v, I decl]
def few9 (s : ByteArray) (l : List (Int × Int)) : Bool := !(!(decide ((l.length : Int) ≤ 33)) || decide ((s.size : Int) > 70))
theorem few9_any (s : ByteArray) (pos : Int) (B : Option Addr) (d : Nat) (l : List (Int × Int)) (decl : Int) (A : Option Addr) (c : Nat) (w : World) (h : RdRow w A 1 4 (fun _ => caskV s pos (.slice B l.length d) decl)) :
    Calls Tryz.prog 6 #[.slice A 1 c] w fun e w' => e = .returned (.bool (few9 s l)) ∧ Below w.heap.size w w' := by
  refine enterPlain tfine Tryz.func6 rfl 29 Tryz.ntmps6 [.c (.inp 1000 A 1 c)] [⟨1000, A, 4, 1, fun _ => caskV s pos (.slice B l.length d) decl⟩] rfl rfl ⟨h, trivial⟩ ⟨.inl ⟨rfl, rfl, rfl⟩, trivial⟩ ?_
  refine G.seqR tfine rfl trivial ?_
  refine G.seq (G.seqR tfine rfl trivial ?_)
  refine G.block (G.loop (fun k : Nat => St.of [(0, .v (.c (.inp 1000 A 1 c))), (3, .v (.c (.k (I k))))] [(1000, .ro 4 1 (fun _ => caskV s pos (.slice B l.length d) decl))])
    (fun k => k ≤ 1 ∧ (k = 1 → few9 s l = true)) (fun k => 1 - k) 0 ⟨by decide, fun h => absurd h (by decide)⟩ (St.le_of rfl ⟨⟨_, rfl, Blk.le_refl _⟩, trivial⟩ ⟨rfl, rfl, trivial⟩) ?_)
  rintro k ⟨hk, hf⟩
  refine G.seq ?_
  refine G.seqR tfine rfl trivial ?_
  refine G.cond (b := decide ((k : Int) < 1)) rfl (fun h7 => ?_) (fun h7 => ?_)
  · have h7 := of_decide_eq_true h7
    have : k = 0 := by omega
    subst this
    refine G.skip ?_
    refine G.seq (G.block ?_)
    refine G.seqC tfine rfl ?_ ?_
    · simp only [AllP]
      and_intros <;> first | trivial | decide
    refine GO.callPlain (v := .bool (decide ((l.length : Int) ≤ 33))) rfl rfl rfl rfl (fun args w => Tryz.call23 args w) (fun ρ w1 hs hok => few8_any B l.length d w1) ?_
    refine GO.fin tfine rfl ?_ ?_
    · first | trivial | (simp [AllP, condB]; done) | (simp only [AllP]; and_intros <;> first | trivial | decide | omega) | (simp [AllP, condB]; intros; and_intros <;> first | assumption | omega) | (simp [AllP, condB]; intros; simp_all; done)
    refine G.cond (b := !(decide ((l.length : Int) ≤ 33)) || decide ((s.size : Int) > 70)) rfl (fun h8 => ?_) (fun h8 => ?_)
    · refine G.seqR tfine rfl trivial ?_
      refine G.ret (endK.ret rfl ?_)
      rw [few9, h8]
      rfl
    · refine G.skip ?_
      refine G.reg tfine rfl trivial ?_
      exact ⟨1, ⟨Nat.le_refl _, fun _ => by rw [few9, h8]; rfl⟩, by decide, St.le_of rfl ⟨⟨_, rfl, Blk.le_refl _⟩, trivial⟩ ⟨rfl, rfl, trivial⟩⟩
  have h7 := of_decide_eq_false h7
  have : k = 1 := by omega
  subst this
  refine G.exit ?_
  refine G.seqR tfine rfl trivial ?_
  refine G.ret (endK.ret rfl ?_)
  rw [hf rfl]
  rfl
theorem apCk : ApT Tryz.prog 27 24 4 56 (.agg #[.string ByteArray.empty, I 0, .slice none 0 0, I 0]) := ⟨by kernel_rfl, by kernel_rfl, rfl, by decide⟩
/-- A copy of a row of one cask. -/
def CopyAns (w w' : World) (s : ByteArray) (pos : Int) (l : List (Int × Int)) (decl : Int) (e : Ending) : Prop := ∃ (u v : Option Addr × Nat), e = .returned (.slice u.1 1 u.2) ∧ Below w.heap.size w w' ∧ (RdRow w' u.1 1 4 (fun _ => caskV s pos (.slice v.1 l.length v.2) decl) ∧ RdRow w' v.1 l.length 2 (elP l)) ∧
  (∀ k, sb (.slice u.1 1 u.2) k ∨ sb (.slice v.1 l.length v.2) k → w.heap.size ≤ k ∧ k < w'.heap.size) ∧ Steady (fun k => sb (.slice u.1 1 u.2) k ∨ sb (.slice v.1 l.length v.2) k) (fun w => RdRow w u.1 1 4 (fun _ => caskV s pos (.slice v.1 l.length v.2) decl) ∧ RdRow w v.1 l.length 2 (elP l))
def cpSt (s : ByteArray) (pos : Int) (B : Option Addr) (d : Nat) (l : List (Int × Int)) (decl : Int) (A : Option Addr) (c : Nat) : Option (Nat × (Option Addr × Nat) × (Nat → Prop)) → St
  | none => St.of [(0, .v (.c (.inp 806 A 1 c))), (3, .v (.c (accV 24 4 0 0))), (4, .v (.c (.k (I 0))))]
      [(801, .say (sb (.slice A 1 c)) (fun w => RdRow w A 1 4 (fun _ => caskV s pos (.slice B l.length d) decl))), (802, .say (sb (.slice B l.length d)) (fun w => RdRow w B l.length 2 (elP l))), (806, .ro 4 1 (fun _ => caskV s pos (.slice B l.length d) decl)), (24, accB 24 4 0 0 (fun _ => []))]
  | some z => St.of [(0, .v (.c (.inp 806 A 1 c))), (3, .v (.c (.slc 24 0 4 1 z.1))), (4, .v (.c (.k (I 1))))]
      [(801, .say (sb (.slice A 1 c)) (fun w => RdRow w A 1 4 (fun _ => caskV s pos (.slice B l.length d) decl))), (802, .say (sb (.slice B l.length d)) (fun w => RdRow w B l.length 2 (elP l))), (806, .ro 4 1 (fun _ => caskV s pos (.slice B l.length d) decl)), (24, .arr 24 4 1 (fun _ => caskV s pos (.slice z.2.1.1 l.length z.2.1.2) decl) ((z.1 - 1) * 4)), (19, .say z.2.2 (fun w => RdRow w z.2.1.1 l.length 2 (elP l)))]
theorem copy_any (s : ByteArray) (pos : Int) (B : Option Addr) (d : Nat) (l : List (Int × Int)) (decl : Int) (A : Option Addr) (c : Nat) (w : World) (h1 : RdRow w A 1 4 (fun _ => caskV s pos (.slice B l.length d) decl)) (h2 : RdRow w B l.length 2 (elP l)) (hn : l.length ≤ 100000) :
    Calls Tryz.prog 27 #[.slice A 1 c] w fun e w' => CopyAns w w' s pos l decl e := by
  refine enterSay [] [.c (.k (.slice A 1 c))] [(801, .say (sb (.slice A 1 c)) (fun w => RdRow w A 1 4 (fun _ => caskV s pos (.slice B l.length d) decl))), (802, .say (sb (.slice B l.length d)) (fun w => RdRow w B l.length 2 (elP l)))] Tryz.func27 rfl 26 Tryz.ntmps27 rfl rfl ⟨trivial, trivial⟩
    ⟨⟨h1, sb_lt h1, steady_row⟩, ⟨fun h => h.elim, fun h => h.elim, trivial⟩, ⟨h2, sb_lt h2, steady_row⟩, trivial, trivial⟩ ?_
  refine G.openSay 801 806 0 rfl (fun _ h => h) (fun _ h => h) rfl rfl rfl ?_
  refine G.seqR tfine rfl trivial ?_
  refine G.seqR tfine rfl trivial ?_
  refine G.seq (G.seqR tfine rfl trivial ?_)
  refine G.newNil 24 4 (fun _ => []) rfl ?_
  refine G.block (G.loop (cpSt s pos B d l decl A c) (fun z => match z with
      | none => True
      | some z => 1 ≤ z.1 ∧ (∀ k, z.2.2 k → w.heap.size ≤ k) ∧ ∀ k, sb (.slice z.2.1.1 l.length z.2.1.2) k → z.2.2 k) (fun z => match z with
      | none => 1
      | some _ => 0) none trivial (St.le_of rfl ⟨⟨_, rfl, Blk.le_refl _⟩, ⟨_, rfl, Blk.le_refl _⟩, ⟨_, rfl, Blk.le_refl _⟩, ⟨_, rfl, Blk.le_refl _⟩, trivial⟩ ⟨rfl, rfl, rfl, trivial⟩) ?_)
  intro z hz
  cases z with
  | some z =>
    obtain ⟨c', ⟨V, cv⟩, S⟩ := z
    obtain ⟨hc', hS, hV⟩ := hz
    simp only at hc' hV hS
    refine G.seq ?_
    refine G.seqR tfine rfl trivial ?_
    refine G.cond_false rfl ?_
    refine G.exit ?_
    refine G.freezeArr 24 3 rfl rfl (Nat.le_refl _) fun g hg => ?_
    refine G.seqR tfine rfl trivial ?_
    refine G.ret ⟨.inl rfl, fun ρ a w' hs => ⟨_, results_run tfine hs rfl, (some ⟨g, 0, none⟩, c'), (V, cv), rfl, hs.mem.fr.toBelow, ⟨(hs.mem.ok 24 _ rfl).1, (hs.mem.ok 19 _ rfl).1⟩, ?_, ?_⟩⟩
    · rintro k (hk | hk)
      · obtain ⟨_, a, e, rfl⟩ := hk
        injection e with e
        rw [← e]
        exact ⟨hg.elim id (fun h => by cases h), (hs.mem.ok 24 _ rfl).2.1 g rfl⟩
      · exact ⟨hS k (hV k hk), (hs.mem.ok 19 _ rfl).2.1 k (hV k hk)⟩
    · rintro x1 x2 y1 y2 ⟨y3, y4⟩
      exact ⟨steady_row (cap := c') x1 x2 (fun k hk => y1 k (.inl hk)) y2 y3, steady_row (cap := cv) x1 x2 (fun k hk => y1 k (.inr hk)) y2 y4⟩
  | none =>
    refine G.seq ?_
    refine G.seqR tfine rfl trivial ?_
    refine G.cond_true rfl ?_
    refine G.skip ?_
    refine G.seq (G.block ?_)
    refine G.seqR tfine rfl ?_ ?_
    · simp only [AllP]
      and_intros <;> first | trivial | decide
    refine G.seq ?_
    refine G.region_lit ?_
    refine GO.emptySlice tfine rfl rfl rfl rfl rfl rfl rfl fun A0 => ?_
    refine GO.firstN tfine 2 rfl trivial ?_
    refine GO.openSay 802 807 18 rfl (fun _ h => h) (fun _ h => h) rfl rfl rfl ?_
    refine GO.appendNew (elP l) apPt rfl rfl rfl rfl rfl rfl rfl rfl (RowOf.ro rfl) (fun k hk => rfl) (fun i hi u hu => by simp [elP] at hu; rcases hu with rfl | rfl <;> rfl) (by unfold maxLen; omega) (by omega) (fun h0 => ?_) fun h0 cv hcv => ?_
    · refine GO.fin tfine rfl trivial ?_
      have h0 : l = [] := List.length_eq_zero_iff.1 h0
      subst h0
      have hV : ∀ k, sb (.slice A0 ([] : List (Int × Int)).length 0) k → w.heap.size ≤ k := fun k hk => absurd hk.1 (Nat.lt_irrefl 0)
      refine G.sem fun ρ a w1 hs => ⟨ρ, _, hs.tell (y := 19) (sb (.slice A0 ([] : List (Int × Int)).length 0)) (fun w => RdRow w A0 ([] : List (Int × Int)).length 2 (elP ([] : List (Int × Int)))) (RdRow.nil _ _ _ _) (fun k hk => absurd hk.1 (Nat.lt_irrefl 0)) steady_row (fun b hb => by cases hb) (fun z c _ _ hk => absurd hk.1 (Nat.lt_irrefl 0)), ?_⟩
      refine G.weaken (st' := St.of [(0, .v (.c (.inp 806 A 1 c))), (3, .v (.c (accV 24 4 0 0))), (4, .v (.c (.k (I 0)))), (5, .v (.c (.ptr 5 0 0 0)))]
          [(801, .say (sb (.slice A 1 c)) (fun w => RdRow w A 1 4 (fun _ => caskV s pos (.slice B ([] : List (Int × Int)).length d) decl))), (802, .say (sb (.slice B ([] : List (Int × Int)).length d)) (fun w => RdRow w B ([] : List (Int × Int)).length 2 (elP ([] : List (Int × Int))))), (806, .ro 4 1 (fun _ => caskV s pos (.slice B ([] : List (Int × Int)).length d) decl)), (24, accB 24 4 0 0 (fun _ => [])), (5, .var 24 [.k (.string s), .k (I pos), .k (.slice A0 ([] : List (Int × Int)).length 0), .k (I decl)]), (19, .say (sb (.slice A0 ([] : List (Int × Int)).length 0)) (fun w => RdRow w A0 ([] : List (Int × Int)).length 2 (elP ([] : List (Int × Int)))))])
        (St.le_of rfl ⟨⟨_, rfl, Blk.le_refl _⟩, ⟨_, rfl, Blk.le_refl _⟩, ⟨_, rfl, Blk.le_refl _⟩, ⟨_, rfl, Blk.le_refl _⟩, ⟨_, rfl, Blk.le_refl _⟩, ⟨_, rfl, Blk.le_refl _⟩, trivial⟩ ⟨rfl, rfl, rfl, rfl, trivial⟩) ?_
      refine G.regC tfine rfl trivial ?_
      refine GO.appendAccB (n := 0) (c := 0) (el := fun _ => []) [.string s, I pos, .slice A0 ([] : List (Int × Int)).length 0, I decl] [(0, .v (.c (.inp 806 A 1 c))), (4, .v (.c (.k (I 0))))]
          [(801, .say (sb (.slice A 1 c)) (fun w => RdRow w A 1 4 (fun _ => caskV s pos (.slice B ([] : List (Int × Int)).length d) decl))), (802, .say (sb (.slice B ([] : List (Int × Int)).length d)) (fun w => RdRow w B ([] : List (Int × Int)).length 2 (elP ([] : List (Int × Int))))), (806, .ro 4 1 (fun _ => caskV s pos (.slice B ([] : List (Int × Int)).length d) decl)), (19, .say (sb (.slice A0 ([] : List (Int × Int)).length 0)) (fun w => RdRow w A0 ([] : List (Int × Int)).length 2 (elP ([] : List (Int × Int)))))] apCk rfl rfl rfl rfl rfl rfl rfl rfl rfl rfl (fun u hu => by simp at hu; rcases hu with rfl | rfl | rfl | rfl <;> rfl)
        (St.le_of rfl ⟨⟨_, rfl, Blk.le_refl _⟩, ⟨_, rfl, Blk.le_refl _⟩, ⟨_, rfl, Blk.le_refl _⟩, ⟨_, rfl, Blk.le_refl _⟩, trivial⟩ ⟨rfl, rfl, trivial⟩) (subM.fr (x := 24) ⟨rfl, (by decide : (801 : Nat) ≠ 24), rfl, (by decide : (802 : Nat) ≠ 24), rfl, (by decide : (806 : Nat) ≠ 24), rfl, (by decide : (19 : Nat) ≠ 24), trivial⟩) (fun k hk => absurd hk (Nat.not_lt_zero k)) (by unfold maxLen; omega) (by omega) fun c' hc' => ?_
      refine GO.fin tfine rfl trivial ?_
      refine G.reg tfine rfl trivial ?_
      exact ⟨some (c', (A0, 0), sb (.slice A0 ([] : List (Int × Int)).length 0)), ⟨hc', hV, fun _ h => h⟩, Nat.zero_lt_one, St.le_of rfl ⟨⟨_, rfl, Blk.le_refl _⟩, ⟨_, rfl, Blk.le_refl _⟩, ⟨_, rfl, Blk.le_refl _⟩, ⟨_, rfl, rfl, rfl, Nat.le_refl _, fun j hj => by rw [show j = 0 by omega]; rfl, Nat.le_refl _⟩, ⟨_, rfl, Blk.le_refl _⟩, trivial⟩ ⟨rfl, rfl, rfl, trivial⟩⟩
    · refine GO.freezeArr 19 19 rfl rfl (Nat.le_refl _) fun gv hgv => ?_
      refine GO.fin tfine rfl trivial ?_
      have hV : ∀ k, sb (.slice (some ⟨gv, 0, none⟩) l.length cv) k → w.heap.size ≤ k := fun k hk => by
        obtain ⟨_, a, e, rfl⟩ := hk
        injection e with e
        rw [← e]
        exact hgv.elim id (fun h => by cases h)
      refine G.weaken (st' := St.of [(0, .v (.c (.inp 806 A 1 c))), (3, .v (.c (accV 24 4 0 0))), (4, .v (.c (.k (I 0)))), (5, .v (.c (.ptr 5 0 0 0)))]
          [(801, .say (sb (.slice A 1 c)) (fun w => RdRow w A 1 4 (fun _ => caskV s pos (.slice B l.length d) decl))), (802, .say (sb (.slice B l.length d)) (fun w => RdRow w B l.length 2 (elP l))), (806, .ro 4 1 (fun _ => caskV s pos (.slice B l.length d) decl)), (24, accB 24 4 0 0 (fun _ => [])), (5, .var 24 [.k (.string s), .k (I pos), .k (.slice (some ⟨gv, 0, none⟩) l.length cv), .k (I decl)]), (19, .say (· = gv) (fun w => RdRow w (some ⟨gv, 0, none⟩) l.length 2 (elP l)))])
        (St.le_of rfl ⟨⟨_, rfl, Blk.le_refl _⟩, ⟨_, rfl, Blk.le_refl _⟩, ⟨_, rfl, Blk.le_refl _⟩, ⟨_, rfl, Blk.le_refl _⟩, ⟨_, rfl, Blk.le_refl _⟩, ⟨_, rfl, Blk.le_refl _⟩, trivial⟩ ⟨rfl, rfl, rfl, rfl, trivial⟩) ?_
      refine G.regC tfine rfl trivial ?_
      refine GO.appendAccB (n := 0) (c := 0) (el := fun _ => []) [.string s, I pos, .slice (some ⟨gv, 0, none⟩) l.length cv, I decl] [(0, .v (.c (.inp 806 A 1 c))), (4, .v (.c (.k (I 0))))]
          [(801, .say (sb (.slice A 1 c)) (fun w => RdRow w A 1 4 (fun _ => caskV s pos (.slice B l.length d) decl))), (802, .say (sb (.slice B l.length d)) (fun w => RdRow w B l.length 2 (elP l))), (806, .ro 4 1 (fun _ => caskV s pos (.slice B l.length d) decl)), (19, .say (· = gv) (fun w => RdRow w (some ⟨gv, 0, none⟩) l.length 2 (elP l)))] apCk rfl rfl rfl rfl rfl rfl rfl rfl rfl rfl (fun u hu => by simp at hu; rcases hu with rfl | rfl | rfl | rfl <;> rfl)
        (St.le_of rfl ⟨⟨_, rfl, Blk.le_refl _⟩, ⟨_, rfl, Blk.le_refl _⟩, ⟨_, rfl, Blk.le_refl _⟩, ⟨_, rfl, Blk.le_refl _⟩, trivial⟩ ⟨rfl, rfl, trivial⟩) (subM.fr (x := 24) ⟨rfl, (by decide : (801 : Nat) ≠ 24), rfl, (by decide : (802 : Nat) ≠ 24), rfl, (by decide : (806 : Nat) ≠ 24), rfl, (by decide : (19 : Nat) ≠ 24), trivial⟩) (fun k hk => absurd hk (Nat.not_lt_zero k)) (by unfold maxLen; omega) (by omega) fun c' hc' => ?_
      refine GO.fin tfine rfl trivial ?_
      refine G.reg tfine rfl trivial ?_
      exact ⟨some (c', (some ⟨gv, 0, none⟩, cv), (· = gv)), ⟨hc', fun k hk => by rw [show k = gv from hk]; exact hgv.elim id (fun h => by cases h), fun k hk => by obtain ⟨_, a, e, rfl⟩ := hk; injection e with e; rw [← e]⟩, Nat.zero_lt_one, St.le_of rfl ⟨⟨_, rfl, Blk.le_refl _⟩, ⟨_, rfl, Blk.le_refl _⟩, ⟨_, rfl, Blk.le_refl _⟩, ⟨_, rfl, rfl, rfl, Nat.le_refl _, fun j hj => by rw [show j = 0 by omega]; rfl, Nat.le_refl _⟩, ⟨_, rfl, Blk.le_refl _⟩, trivial⟩ ⟨rfl, rfl, rfl, trivial⟩⟩
end Go.Proofs.YtphipfmidfoflaaGreat
/- Top: own casks, the wet space in a position. -/
set_option linter.unusedVariables false
set_option linter.unusedSimpArgs false
set_option maxRecDepth 8000
set_option maxHeartbeats 2000000
namespace Go.Proofs.YtphipfmidfoflaaGreat
open Go.Sx Go.RowKit
theorem ownCask_any (s : ByteArray) (pos : Int) (B : Option Addr) (d : Nat) (l : List (Int × Int)) (decl : Int) (w : World) (h2 : RdRow w B l.length 2 (elP l)) (hn : l.length ≤ 100000) :
    Calls Tryz.prog 8 #[.agg #[.string s, I pos, .slice B l.length d, I decl]] w fun e w' => CaskAns w w' s pos l decl e := by
  refine enterSay [] [.agg [.k (.string s), .k (I pos), .k (.slice B l.length d), .k (I decl)]] [(801, .say (sb (.slice B l.length d)) (fun w => RdRow w B l.length 2 (elP l)))] Tryz.func8 rfl 8 Tryz.ntmps8 rfl rfl ⟨⟨trivial, trivial, trivial, trivial, trivial⟩, trivial⟩ ⟨⟨h2, sb_lt h2, steady_row⟩, trivial, trivial⟩ ?_
  refine G.seqR tfine rfl trivial ?_
  refine G.seqC tfine rfl trivial ?_
  refine GO.callSay 820 (fun u : (Option Addr × Nat) × (Option Addr × Nat) => .slice u.1.1 1 u.1.2) (fun u k => sb (.slice u.1.1 1 u.1.2) k ∨ sb (.slice u.2.1 l.length u.2.2) k) (fun u w1 => (RdRow w1 u.1.1 1 4 (fun _ => caskV s pos (.slice u.2.1 l.length u.2.2) decl) ∧ RdRow w1 u.2.1 l.length 2 (elP l)) ∧ ∀ k, sb (.slice u.2.1 l.length u.2.2) k → w.heap.size ≤ k) rfl rfl rfl rfl rfl (fun args w => Tryz.call27 args w) (fun ρ w1 hs hok => ?_) fun u => ?_
  · have h0 := hs.rdVar (x := 4) (sz := 4) (ty := 24) (vs := [.string s, I pos, .slice B l.length d, I decl]) rfl 0 1 (Nat.le_refl 4)
    have := copy_any s pos B d l decl (some ⟨(ρ 4).1, (ρ 4).2 + 0 * 4, none⟩) 1 w1 (h0.congr fun i hi => by
      match i, hi with
      | 0, _ => rfl) (hs.ok 801 _ rfl).1 hn
    refine this.mono ?_
    rintro e w' ⟨u, v, rfl, hb, hr, hk, hst⟩
    exact ⟨(u, v), rfl, hb, ⟨hr, fun k h => Nat.le_trans hs.fr.size (hk k (.inr h)).1⟩, hk, fun x1 x2 y1 y2 y3 => ⟨hst x1 x2 y1 y2 y3.1, y3.2⟩⟩
  refine GO.openSay 820 826 5 rfl (fun _ h => h.1.1) (fun _ h => .inl h) rfl rfl rfl ?_
  refine GO.fin tfine rfl ?_ ?_
  · simp only [AllP]
    and_intros <;> first | trivial | decide
  refine G.ret ⟨.inl rfl, fun ρ a w' hs => ⟨_, results_run tfine hs rfl, u.2, rfl, hs.mem.fr.toBelow, (hs.mem.ok 820 _ rfl).1.1.2, fun k hk => ⟨(hs.mem.ok 820 _ rfl).1.2 k hk, (hs.mem.ok 820 _ rfl).2.1 k (.inr hk)⟩, steady_row⟩⟩
/-- the wet space of a cask in its position -/
def wetM (s : ByteArray) (pos : Int) (l : List (Int × Int)) (decl dip m n : Int) : Int × Int × Int := if (pos == 1) = true then cutM s pos l decl dip m n else stWet s pos l decl dip n
theorem wetSpace_any (s : ByteArray) (pos : Int) (B : Option Addr) (d : Nat) (l : List (Int × Int)) (decl dip m n : Int) (w : World) (h2 : RdRow w B l.length 2 (elP l)) (hn : l.length ≤ 90000) :
    Calls Tryz.prog 9 #[.agg #[.string s, I pos, .slice B l.length d, I decl], I dip, I m, I n] w fun e w' => e = .returned (.tuple #[.agg #[I (wetM s pos l decl dip m n).1, I (wetM s pos l decl dip m n).2.1], I (wetM s pos l decl dip m n).2.2]) ∧ Below w.heap.size w w' := by
  refine enterSay [] [.agg [.k (.string s), .k (I pos), .k (.slice B l.length d), .k (I decl)], .c (.k (I dip)), .c (.k (I m)), .c (.k (I n))] [(801, .say (sb (.slice B l.length d)) (fun w => RdRow w B l.length 2 (elP l)))] Tryz.func9 rfl 28 Tryz.ntmps9 rfl rfl ⟨⟨trivial, trivial, trivial, trivial, trivial⟩, trivial, trivial, trivial, trivial⟩ ⟨⟨h2, sb_lt h2, steady_row⟩, trivial, trivial⟩ ?_
  refine G.seqR tfine rfl trivial ?_
  refine G.seq ?_
  refine G.seqR tfine rfl trivial ?_
  refine G.cond (b := pos == 1) rfl (fun h1 => ?_) (fun h1 => ?_)
  · refine G.seqC tfine rfl trivial ?_
    refine GO.callSay 820 (fun v : Option Addr × Nat => .agg #[.string s, I pos, .slice v.1 l.length v.2, I decl]) (fun v => sb (.slice v.1 l.length v.2)) (fun v w => RdRow w v.1 l.length 2 (elP l)) rfl rfl rfl rfl rfl (fun args w => Tryz.call8 args w) (fun ρ w1 hs hok => ownCask_any s pos B d l decl w1 (hs.ok 801 _ rfl).1 (by omega)) fun v => ?_
    refine GO.more tfine rfl trivial ?_
    refine GO.callPlain (v := .tuple #[.agg #[I (cutM s pos l decl dip m n).1, I (cutM s pos l decl dip m n).2.1], I (cutM s pos l decl dip m n).2.2]) rfl rfl rfl rfl (fun args w => Tryz.call12 args w) (fun ρ w1 hs hok => lying_Wet_any s pos v.1 v.2 l decl dip m n w1 (hs.ok 820 _ rfl).1 (by omega)) ?_
    refine GO.fin tfine rfl trivial ?_
    refine G.ret (retK.plain tfine rfl ?_)
    rw [wetM, if_pos h1]
  refine G.skip ?_
  refine G.seqC tfine rfl trivial ?_
  refine GO.callSay 820 (fun v : Option Addr × Nat => .agg #[.string s, I pos, .slice v.1 l.length v.2, I decl]) (fun v => sb (.slice v.1 l.length v.2)) (fun v w => RdRow w v.1 l.length 2 (elP l)) rfl rfl rfl rfl rfl (fun args w => Tryz.call8 args w) (fun ρ w1 hs hok => ownCask_any s pos B d l decl w1 (hs.ok 801 _ rfl).1 (by omega)) fun v => ?_
  refine GO.more tfine rfl trivial ?_
  refine GO.callPlain (v := .tuple #[.agg #[I (stWet s pos l decl dip n).1, I (stWet s pos l decl dip n).2.1], I (stWet s pos l decl dip n).2.2]) rfl rfl rfl rfl (fun args w => Tryz.call13 args w) (fun ρ w1 hs hok => stWet_any s pos v.1 v.2 l decl dip n w1 (hs.ok 820 _ rfl).1 hn) ?_
  refine GO.fin tfine rfl trivial ?_
  refine G.ret (retK.plain tfine rfl ?_)
  rw [wetM, if_neg (fne h1)]
end Go.Proofs.YtphipfmidfoflaaGreat
/- Top: the walk of TopBounds. -/
set_option linter.unusedVariables false
set_option linter.unusedSimpArgs false
set_option maxRecDepth 8000
set_option maxHeartbeats 2000000
namespace Go.Proofs.YtphipfmidfoflaaGreat
open Go.Sx Go.RowKit
def bndB (a b f z al fu : Int × Int × Int) : Bool := ((((((((((f.2.2 == 0 && z.2.2 == 0) && al.2.2 == 0) && fu.2.2 == 0) && decide (a.1 ≤ b.2.1)) && decide (b.1 ≤ f.1)) && decide (f.2.1 ≤ b.2.1)) && (z.1 == 0 && z.2.1 == 0)) && decide (al.1 ≤ fu.2.1)) && decide (fu.1 ≤ al.2.1)) && decide (b.1 ≤ fu.2.1))
def mn2 (u v : Int) : Int := if v < u then v else u
def mx2 (u v : Int) : Int := if v > u then v else u
def topBnd (s : ByteArray) (pos : Int) (l : List (Int × Int)) (decl u v m n : Int) : Bool :=
  if ((((!(few9 s l) || decide (m < 1)) || decide (m > 4)) || decide (n < 1)) || decide (n > 16)) = true then true
  else if ((depthM s pos l decl).2 != 0) = true then (depthM s pos l decl).1 == 0
  else if (decide (mn2 u v < 0) || decide (mx2 u v > (depthM s pos l decl).1)) = true then true
  else if ((wetM s pos l decl (mn2 u v) m n).2.2 != 0 || (wetM s pos l decl (mx2 u v) m n).2.2 != 0) = true then ((wetM s pos l decl (mn2 u v) m n).2.2 == (wetM s pos l decl (mx2 u v) m n).2.2 && (wetM s pos l decl (mn2 u v) m n).2.2 == 15)
  else bndB (wetM s pos l decl (mn2 u v) m n) (wetM s pos l decl (mx2 u v) m n) (wetM s pos l decl (mx2 u v) m (IntKind.i64.wrap (2 * n))) (wetM s pos l decl 0 m n) (wetM s pos l decl (depthM s pos l decl).1 m n) (capacity_Space l)
theorem topBnd_any (s : ByteArray) (pos : Int) (B : Option Addr) (d : Nat) (l : List (Int × Int)) (decl u v m n : Int) (w : World) (h2 : RdRow w B l.length 2 (elP l)) (hs0 : s.size ≤ 9223372036854775807) :
    Calls Tryz.prog 3 #[.agg #[.string s, I pos, .slice B l.length d, I decl], I u, I v, I m, I n] w fun e w' => e = .returned (.bool (topBnd s pos l decl u v m n)) ∧ Below w.heap.size w w' := by
  refine enterSay [] [.agg [.k (.string s), .k (I pos), .k (.slice B l.length d), .k (I decl)], .c (.k (I u)), .c (.k (I v)), .c (.k (I m)), .c (.k (I n))] [(801, .say (sb (.slice B l.length d)) (fun w => RdRow w B l.length 2 (elP l)))] Tryz.func3 rfl 192 Tryz.ntmps3 rfl rfl ⟨⟨trivial, trivial, trivial, trivial, trivial⟩, trivial, trivial, trivial, trivial, trivial⟩ ⟨⟨h2, sb_lt h2, steady_row⟩, trivial, trivial⟩ ?_
  refine G.seqR tfine rfl trivial ?_
  refine G.seq ?_
  refine G.seqC tfine rfl trivial ?_
  refine GO.callPlain (v := .bool true) rfl rfl rfl rfl (fun args w => Tryz.call5 args w) (fun ρ w hs hok => awake_any w) ?_
  refine GO.fin tfine rfl trivial ?_
  refine G.cond_false rfl ?_
  refine G.skip ?_
  refine G.seq ?_
  refine G.seqC tfine rfl trivial ?_
  refine GO.callPlain (v := .bool (few9 s l)) rfl rfl rfl rfl (fun args w => Tryz.call6 args w) (fun ρ w1 hs hok => ?_) ?_
  · have h0 := hs.rdVar (x := 29) (sz := 4) (ty := 24) (vs := [.string s, I pos, .slice B l.length d, I decl]) rfl 0 1 (Nat.le_refl 4)
    exact few9_any s pos B d l decl (some ⟨(ρ 29).1, (ρ 29).2 + 0 * 4, none⟩) 1 w1 (h0.congr fun i hi => by
      match i, hi with
      | 0, _ => rfl)
  refine GO.fin tfine rfl ?_ ?_
  · first | trivial | (simp [AllP, condB]; done) | (simp only [AllP]; and_intros <;> first | trivial | decide | omega) | (simp [AllP, condB]; intros; and_intros <;> first | assumption | omega) | (simp [AllP, condB]; intros; simp_all; done)
  refine G.cond (b := ((((!(few9 s l) || decide (m < 1)) || decide (m > 4)) || decide (n < 1)) || decide (n > 16))) rfl (fun h1 => ?_) (fun h1 => ?_)
  · refine G.seqR tfine rfl trivial ?_
    refine G.ret (retK.plain tfine rfl ?_)
    rw [topBnd, if_pos h1]
  have hl : l.length ≤ 33 := by
    cases hb : few9 s l with
    | false => rw [hb] at h1; simp at h1
    | true =>
      simp [few9] at hb
      omega
  refine G.skip ?_
  refine G.seqC tfine rfl trivial ?_
  refine GO.callSay 820 (fun v : Option Addr × Nat => .agg #[.string s, I pos, .slice v.1 l.length v.2, I decl]) (fun v => sb (.slice v.1 l.length v.2)) (fun v w => RdRow w v.1 l.length 2 (elP l)) rfl rfl rfl rfl rfl (fun args w => Tryz.call8 args w) (fun ρ w1 hs hok => ownCask_any s pos B d l decl w1 (hs.ok 801 _ rfl).1 (by omega)) fun oc => ?_
  refine GO.more tfine rfl trivial ?_
  obtain ⟨dp, hdp⟩ : ∃ dp, dp = depthM s pos l decl := ⟨_, rfl⟩
  refine GO.callPlain (v := .tuple #[I dp.1, I dp.2]) rfl rfl rfl rfl (fun args w => Tryz.call7 args w) (fun ρ w1 hs hok => by rw [hdp]; exact depth_any s pos oc.1 oc.2 l decl w1 (hs.ok 820 _ rfl).1 (by omega)) ?_
  refine GO.fin tfine rfl trivial ?_
  refine G.seq ?_
  refine G.seqR tfine rfl trivial ?_
  refine G.cond (b := dp.2 != 0) rfl (fun h3 => ?_) (fun h3 => ?_)
  · refine G.seqR tfine rfl trivial ?_
    refine G.ret (retK.plain tfine rfl ?_)
    rw [topBnd, if_neg (fne h1), ← hdp, if_pos h3]
  refine G.skip ?_
  refine G.seqR tfine rfl trivial ?_
  refine G.seq ?_
  refine G.seqR tfine rfl ?_ ?_
  · first | trivial | (simp [AllP, condB]; done) | (simp only [AllP]; and_intros <;> first | trivial | decide | omega) | (simp [AllP, condB]; intros; and_intros <;> first | assumption | omega) | (simp [AllP, condB]; intros; simp_all; done)
  refine G.cond (b := decide (mn2 u v < 0) || decide (mx2 u v > dp.1)) rfl (fun h4 => ?_) (fun h4 => ?_)
  · refine G.seqR tfine rfl trivial ?_
    refine G.ret (retK.plain tfine rfl ?_)
    rw [topBnd, if_neg (fne h1), ← hdp, if_neg (fne h3), if_pos h4]
  refine G.skip ?_
  refine G.seqC tfine rfl trivial ?_
  obtain ⟨a, ha⟩ : ∃ a, a = wetM s pos l decl (mn2 u v) m n := ⟨_, rfl⟩
  refine GO.callPlain (v := .tuple #[.agg #[I a.1, I a.2.1], I a.2.2]) rfl rfl rfl rfl (fun args w => Tryz.call9 args w) (fun ρ w1 hs hok => by rw [ha]; exact wetSpace_any s pos B d l decl (mn2 u v) m n w1 (hs.ok 801 _ rfl).1 (by omega)) ?_
  refine GO.fin tfine rfl trivial ?_
  refine G.seqC tfine rfl trivial ?_
  obtain ⟨b, hb⟩ : ∃ b, b = wetM s pos l decl (mx2 u v) m n := ⟨_, rfl⟩
  refine GO.callPlain (v := .tuple #[.agg #[I b.1, I b.2.1], I b.2.2]) rfl rfl rfl rfl (fun args w => Tryz.call9 args w) (fun ρ w1 hs hok => by rw [hb]; exact wetSpace_any s pos B d l decl (mx2 u v) m n w1 (hs.ok 801 _ rfl).1 (by omega)) ?_
  refine GO.fin tfine rfl trivial ?_
  refine G.seq ?_
  refine G.seqR tfine rfl ?_ ?_
  · first | trivial | (simp [AllP, condB]; done) | (simp only [AllP]; and_intros <;> first | trivial | decide | omega) | (simp [AllP, condB]; intros; and_intros <;> first | assumption | omega) | (simp [AllP, condB]; intros; simp_all; done)
  refine G.cond (b := a.2.2 != 0 || b.2.2 != 0) rfl (fun h5 => ?_) (fun h5 => ?_)
  · refine G.seqR tfine rfl ?_ ?_
    · first | trivial | (simp [AllP, condB]; done) | (simp only [AllP]; and_intros <;> first | trivial | decide | omega) | (simp [AllP, condB]; intros; and_intros <;> first | assumption | omega) | (simp [AllP, condB]; intros; simp_all; done)
    refine G.ret (retK.plain tfine rfl ?_)
    rw [topBnd, if_neg (fne h1), ← hdp, if_neg (fne h3), if_neg (fne h4), ← ha, ← hb, if_pos h5]
  refine G.skip ?_
  refine G.seqC tfine rfl trivial ?_
  obtain ⟨f, hf⟩ : ∃ f, f = wetM s pos l decl (mx2 u v) m (IntKind.i64.wrap (2 * n)) := ⟨_, rfl⟩
  refine GO.callPlain (v := .tuple #[.agg #[I f.1, I f.2.1], I f.2.2]) rfl rfl rfl rfl (fun args w => Tryz.call9 args w) (fun ρ w1 hs hok => by rw [hf]; exact wetSpace_any s pos B d l decl (mx2 u v) m (IntKind.i64.wrap (2 * n)) w1 (hs.ok 801 _ rfl).1 (by omega)) ?_
  refine GO.fin tfine rfl trivial ?_
  refine G.seqC tfine rfl trivial ?_
  obtain ⟨z, hz⟩ : ∃ z, z = wetM s pos l decl 0 m n := ⟨_, rfl⟩
  refine GO.callPlain (v := .tuple #[.agg #[I z.1, I z.2.1], I z.2.2]) rfl rfl rfl rfl (fun args w => Tryz.call9 args w) (fun ρ w1 hs hok => by rw [hz]; exact wetSpace_any s pos B d l decl 0 m n w1 (hs.ok 801 _ rfl).1 (by omega)) ?_
  refine GO.fin tfine rfl trivial ?_
  refine G.seqC tfine rfl trivial ?_
  obtain ⟨al, hal⟩ : ∃ al, al = wetM s pos l decl dp.1 m n := ⟨_, rfl⟩
  refine GO.callPlain (v := .tuple #[.agg #[I al.1, I al.2.1], I al.2.2]) rfl rfl rfl rfl (fun args w => Tryz.call9 args w) (fun ρ w1 hs hok => by rw [hal]; exact wetSpace_any s pos B d l decl dp.1 m n w1 (hs.ok 801 _ rfl).1 (by omega)) ?_
  refine GO.fin tfine rfl trivial ?_
  refine G.seqC tfine rfl trivial ?_
  refine GO.callSay 821 (fun u : Option Addr × Nat => .slice u.1 l.length u.2) (fun u => sb (.slice u.1 l.length u.2)) (fun u w => RdRow w u.1 l.length 2 (elP l)) rfl rfl rfl rfl rfl (fun args w => Tryz.call11 args w) (fun ρ w1 hs hok => clonePt_any B d l w1 (hs.ok 801 _ rfl).1 (by omega)) fun cl => ?_
  refine GO.more tfine rfl trivial ?_
  obtain ⟨fu, hfu⟩ : ∃ fu, fu = capacity_Space l := ⟨_, rfl⟩
  refine GO.callPlain (v := .tuple #[.agg #[I fu.1, I fu.2.1], I fu.2.2]) rfl rfl rfl rfl (fun args w => Tryz.call10 args w) (fun ρ w1 hs hok => by rw [hfu]; exact capacity_Space_any cl.1 cl.2 l w1 (hs.ok 821 _ rfl).1 (by omega)) ?_
  refine GO.fin tfine rfl trivial ?_
  refine G.seqC tfine rfl ?_ ?_
  · simp [AllP, condB]
  refine GO.structEqG false [I z.1, I z.2.1] [I 0, I 0] (z.1 == 0 && z.2.1 == 0) rfl cmp_api_Bounds rfl rfl rfl (by first | exact trivial | exact ⟨id, trivial⟩ | exact ⟨id, id, trivial⟩) rfl rfl rfl (by kernel_rfl) ?_
  refine GO.fin tfine rfl ?_ ?_
  · simp [AllP, condB]
  refine G.ret (retK.plain tfine rfl ?_)
  rw [topBnd, if_neg (fne h1), ← hdp, if_neg (fne h3), if_neg (fne h4), ← ha, ← hb, if_neg (fne h5), ← hf, ← hz, ← hal, ← hfu]
  rfl
end Go.Proofs.YtphipfmidfoflaaGreat
/- Top: standing casks. -/
set_option linter.unusedVariables false
set_option linter.unusedSimpArgs false
set_option maxRecDepth 8000
set_option maxHeartbeats 2000000
namespace Go.Proofs.YtphipfmidfoflaaGreat
open Go.Sx Go.RowKit
open Go.Cy (sumS)
/-! ### Standing casks -/
theorem lenP_le {l : List (Int × Int)} (ok : ProfOK l) : 0 < lenP l ∧ lenP l ≤ 100000 := by
  have two := ok.two
  have a := ok.x0 (l.length - 1) (by omega)
  have b := up_lt ok (i := 0) (j := l.length - 1) (by omega) (by omega)
  have c := ok.zero
  unfold lenP
  omega
theorem lv_ok {l : List (Int × Int)} (ok : ProfOK l) {dip n : Int} (h0 : 0 ≤ dip) (h1 : dip ≤ lenP l) (hn : 1 ≤ n) (hn2 : n ≤ 64) : LvOK l (srtL (rawL l dip n)) dip := by
  have hb := lenP_le ok
  exact ⟨levels_grid ok h0 (by omega) hn hn2, h1, fun j hj hx => (mem_levels h0 (by omega) hn hn2).2 (.inr ⟨j, hj, hx, rfl⟩)⟩
theorem lv_twice {l : List (Int × Int)} {dip n x : Int} (h0 : 0 ≤ dip) (h1 : dip ≤ 100000) (hn : 1 ≤ n) (hn2 : n ≤ 32) (h : x ∈ srtL (rawL l dip n)) : x ∈ srtL (rawL l dip (2 * n)) := by
  rcases (mem_levels h0 h1 hn (by omega)).1 h with ⟨i, hi, e⟩ | h
  · exact (mem_levels h0 h1 (by omega) (by omega)).2 (.inl ⟨2 * i, by omega, by rw [twice_div hn]; exact e⟩)
  · exact (mem_levels h0 h1 (by omega) (by omega)).2 (.inr h)
theorem lvM_eq {l : List (Int × Int)} (hE : profE l = 0) {dip n : Int} (h0 : 0 ≤ dip) (h1 : dip ≤ lenP l) (hn : 1 ≤ n) (hn2 : n ≤ 64) : levelsM l dip n = (srtL (rawL l dip n), 0) := by
  unfold levelsM
  rw [hE, if_neg (by decide), if_neg (by simp only [Bool.or_eq_true, decide_eq_true_eq]; omega)]
theorem st_zero {s : ByteArray} {l : List (Int × Int)} {decl n : Int} (hE : profE l = 0) (hst : standing_stands s 2 l decl = 0) (hn : 1 ≤ n) (hn2 : n ≤ 64) : stWet s 2 l decl 0 n = (0, 0, 0) := by
  have hb := lenP_le (profE_ok hE)
  unfold stWet
  rw [hst, if_neg (by decide), lvM_eq hE (Int.le_refl _) (by omega) hn hn2, if_pos (by simp)]
theorem st_wet {s : ByteArray} {l : List (Int × Int)} {decl dip n : Int} (hE : profE l = 0) (hst : standing_stands s 2 l decl = 0) (h0 : 0 < dip) (h1 : dip ≤ lenP l) (hn : 1 ≤ n) (hn2 : n ≤ 64) : stWet s 2 l decl dip n = (spL (3 * sqB l (srtL (rawL l dip n)) ((srtL (rawL l dip n)).length - 1)), spH (3 * sqC l (srtL (rawL l dip n)) ((srtL (rawL l dip n)).length - 1)), 0) := by
  have ok := profE_ok hE
  have hb := lenP_le ok
  have hk := lv_ok ok (Int.le_of_lt h0) h1 hn hn2
  have hL := lvM_eq hE (Int.le_of_lt h0) h1 hn hn2
  have hlen := levels_len l dip n
  rw [hL] at hlen
  simp only at hlen
  unfold stWet
  rw [hst, if_neg (by decide), hL]
  simp only
  rw [if_neg (by simp; omega)]
  generalize srtL (rawL l dip n) = lv at *
  have hg := hk.g
  have most := ok.most
  have hlen1 := hg.len
  have hlen2 : 2 ≤ lv.length := by
    rcases Nat.lt_or_ge 1 lv.length with h1 | h1
    · exact h1
    · have a := hg.fst
      have b := hg.lst
      rw [show lv.length - 1 = 0 by omega, a] at b
      omega
  have hck : stCheck s 2 l decl lv = 0 := stCheck_ok hst ok hg h1 hlen2 (by omega) hk.pts
  obtain ⟨s1, s2, s3⟩ := stS_eq (l := l) (lv := lv) (lv.length - 1) (by omega) (fun i hi => by have := hg.range (i := i) (by omega); omega) (fun i hi => hg.mono (by omega) (by omega)) (fun i hi => by have := hk.sl hE (i := i) (by omega); omega)
  have e1 := hg.lst
  have e2 := hg.fst
  have t2 : 0 ≤ sqB l lv (lv.length - 1) ∧ sqB l lv (lv.length - 1) ≤ (lv.getD (lv.length - 1) 0 - lv.getD 0 0) * 10000000000 := s2
  have t3 : 0 ≤ sqC l lv (lv.length - 1) ∧ sqC l lv (lv.length - 1) ≤ (lv.getD (lv.length - 1) 0 - lv.getD 0 0) * 10000000000 := s3
  unfold stBet
  rw [hck, if_neg (by decide)]
  have hq : stLast l lv = (3 * sqB l lv (lv.length - 1), 3 * sqC l lv (lv.length - 1)) := s1
  rw [hq, space_eq (by omega) (by omega) (by omega) (by omega)]
theorem mn_mx (u v : Int) : mn2 u v ≤ mx2 u v := by
  unfold mn2 mx2
  split <;> split <;> omega
theorem spH_nn {a : Int} (h : 0 ≤ a) : 0 ≤ spH a := by unfold spH; omega
theorem stand_true {s : ByteArray} {l : List (Int × Int)} {decl x y m n : Int} (hE : profE l = 0) (hst : standing_stands s 2 l decl = 0) (hx : 0 ≤ x) (hxy : x ≤ y) (hy : y ≤ lenP l) (hn : 1 ≤ n) (hn2 : n ≤ 16) :
    (wetM s 2 l decl x m n).2.2 = 0 ∧ (wetM s 2 l decl y m n).2.2 = 0 ∧ bndB (wetM s 2 l decl x m n) (wetM s 2 l decl y m n) (wetM s 2 l decl y m (IntKind.i64.wrap (2 * n))) (wetM s 2 l decl 0 m n) (wetM s 2 l decl (lenP l) m n) (capacity_Space l) = true := by
  have ok := profE_ok hE
  have hb := lenP_le ok
  have hw : ∀ d k : Int, wetM s 2 l decl d m k = stWet s 2 l decl d k := fun d k => by rw [wetM, if_neg (by decide)]
  have hF := (Fq_bound ok).2.1
  rw [hw, hw, hw, hw, hw, w64 (x := 2 * n) (by omega) (by omega), st_zero hE hst hn (by omega), cap_eq hE, st_wet hE hst hb.1 (Int.le_refl _) hn (by omega)]
  have k0 := lv_ok ok (dip := lenP l) (n := n) (by omega) (Int.le_refl _) hn (by omega)
  have f1 := fr_lo hE k0.g k0.le k0.pts
  have f2 := fr_hi hE k0.g k0.pts
  have g1 := sp_le (a := 3 * sqB l (srtL (rawL l (lenP l) n)) ((srtL (rawL l (lenP l) n)).length - 1)) (b := Fq l (l.length - 1)) (by
    have := k0.g.len
    have e : 0 ≤ sqB l (srtL (rawL l (lenP l) n)) ((srtL (rawL l (lenP l) n)).length - 1) := by
      have := sumS_le (h := fun i => (srtL (rawL l (lenP l) n)).getD i 0) (g := fun _ => 0) (g' := fun i => slB l (srtL (rawL l (lenP l) n)) i * slB l (srtL (rawL l (lenP l) n)) i) ((srtL (rawL l (lenP l) n)).length - 1) (fun i hi => k0.g.mono (by omega) (by omega)) (fun i hi => by have := (k0.sl hE (i := i) (by omega)).1; exact Int.mul_nonneg (by omega) (by omega))
      rw [sumS_const (c := 0) _ (fun _ _ => rfl), Int.mul_zero] at this
      exact this
    omega) f1
  have g2 := sp_le hF f2
  have g3 := spH_nn hF
  rcases Int.lt_or_le 0 y with h | h
  · have ky := lv_ok ok (dip := y) (n := n) (by omega) hy hn (by omega)
    have ky2 := lv_ok ok (dip := y) (n := 2 * n) (by omega) hy (by omega) (by omega)
    obtain ⟨r1, r2⟩ := sq_finer hE ky ky2 (fun z hz => lv_twice (by omega) (by omega) hn (by omega) hz)
    have nn : ∀ {d k : Int}, LvOK l (srtL (rawL l d k)) d → 0 ≤ sqB l (srtL (rawL l d k)) ((srtL (rawL l d k)).length - 1) ∧ 0 ≤ sqC l (srtL (rawL l d k)) ((srtL (rawL l d k)).length - 1) := fun {d k} kk => by
      have hl := kk.g.len
      constructor
      · have := sumS_le (h := fun i => (srtL (rawL l d k)).getD i 0) (g := fun _ => 0) (g' := fun i => slB l (srtL (rawL l d k)) i * slB l (srtL (rawL l d k)) i) ((srtL (rawL l d k)).length - 1) (fun i hi => kk.g.mono (by omega) (by omega)) (fun i hi => by have := (kk.sl hE (i := i) (by omega)).1; exact Int.mul_nonneg (by omega) (by omega))
        rw [sumS_const (c := 0) _ (fun _ _ => rfl), Int.mul_zero] at this
        exact this
      · have := sumS_le (h := fun i => (srtL (rawL l d k)).getD i 0) (g := fun _ => 0) (g' := fun i => slC l (srtL (rawL l d k)) i * slC l (srtL (rawL l d k)) i) ((srtL (rawL l d k)).length - 1) (fun i hi => kk.g.mono (by omega) (by omega)) (fun i hi => by have := (kk.sl hE (i := i) (by omega)); exact Int.mul_nonneg (by omega) (by omega))
        rw [sumS_const (c := 0) _ (fun _ _ => rfl), Int.mul_zero] at this
        exact this
    have n1 := nn ky
    have g4 := sp_le (a := 3 * sqB l (srtL (rawL l y n)) ((srtL (rawL l y n)).length - 1)) (b := Fq l (l.length - 1)) (by omega) (fr_lo hE ky.g ky.le ky.pts)
    have g5 := spL_mono (show 3 * sqB l (srtL (rawL l y n)) ((srtL (rawL l y n)).length - 1) ≤ 3 * sqB l (srtL (rawL l y (2 * n))) ((srtL (rawL l y (2 * n))).length - 1) by omega)
    have g6 := spH_mono (show 3 * sqC l (srtL (rawL l y (2 * n))) ((srtL (rawL l y (2 * n))).length - 1) ≤ 3 * sqC l (srtL (rawL l y n)) ((srtL (rawL l y n)).length - 1) by omega)
    have g7 := spH_nn (a := 3 * sqC l (srtL (rawL l y n)) ((srtL (rawL l y n)).length - 1)) (by omega)
    rw [st_wet hE hst h hy hn (by omega), st_wet hE hst h hy (n := 2 * n) (by omega) (by omega)]
    rcases Int.lt_or_le 0 x with hx0 | hx0
    · have kx := lv_ok ok (dip := x) (n := n) (by omega) (by omega) hn (by omega)
      have n2 := nn kx
      have g8 := sqB_sqC hE kx ky hxy
      have g9 := sp_le (a := 3 * sqB l (srtL (rawL l x n)) ((srtL (rawL l x n)).length - 1)) (b := 3 * sqC l (srtL (rawL l y n)) ((srtL (rawL l y n)).length - 1)) (by omega) (by omega)
      rw [st_wet hE hst hx0 (by omega) hn (by omega)]
      refine ⟨rfl, rfl, ?_⟩
      simp only [bndB, Bool.and_eq_true, decide_eq_true_eq, beq_iff_eq]
      and_intros <;> first | trivial | assumption
    · rw [show x = 0 by omega, st_zero hE hst hn (by omega)]
      refine ⟨rfl, rfl, ?_⟩
      simp only [bndB, Bool.and_eq_true, decide_eq_true_eq, beq_iff_eq]
      and_intros <;> first | trivial | assumption
  · rw [show x = 0 by omega, show y = 0 by omega, st_zero hE hst hn (by omega), st_zero hE hst (n := 2 * n) (by omega) (by omega)]
    refine ⟨rfl, rfl, ?_⟩
    simp only [bndB, Bool.and_eq_true, decide_eq_true_eq, beq_iff_eq]
    and_intros <;> first | trivial | assumption
end Go.Proofs.YtphipfmidfoflaaGreat
/- Top: lying casks; what TopBounds computes is true. -/
set_option linter.unusedVariables false
set_option linter.unusedSimpArgs false
set_option maxRecDepth 8000
set_option maxHeartbeats 2000000
namespace Go.Proofs.YtphipfmidfoflaaGreat
open Go.Sx Go.RowKit
open Go.Cy (sumS)
/-! ### Lying casks -/
structure LieOK (s : ByteArray) (l : List (Int × Int)) (decl R : Int) : Prop where
  hE : profE l = 0
  st : lying_lies s 1 l decl = 0
  dp : depthM s 1 l decl = (2 * R, 0)
  r : 1 ≤ R ∧ R ≤ 100000
  top : ∀ j, j < l.length → (pt l j).2 ≤ R
theorem bung_max (l : List (Int × Int)) {j : Nat} : ∀ k, j < k → (pt l j).2 ≤ (pt l (bungN l k)).2
  | 0, h => by omega
  | k + 1, h => by
    unfold bungN
    by_cases e : j = k
    · subst e
      split <;> omega
    · have := bung_max l (j := j) k (by omega)
      split <;> omega
theorem check_prof {s : ByteArray} {l : List (Int × Int)} {pos decl : Int} (h : cask_Check s pos l decl = 0) : profE l = 0 ∧ (pos = 1 ∨ pos = 2) := by
  unfold cask_Check at h
  split at h
  · cases h
  split at h
  · cases h
  rename_i h2
  split at h
  · cases h
  refine ⟨h, ?_⟩
  simp only [Bool.and_eq_true, bne_iff_ne, ne_eq] at h2
  omega
theorem lie_ok {s : ByteArray} {l : List (Int × Int)} {decl : Int} (h : cask_Check s 1 l decl = 0) : ∃ R, LieOK s l decl R := by
  obtain ⟨hE, _⟩ := check_prof h
  have ok := profE_ok hE
  have two := ok.two
  have a := ok.r0 _ (bungN_lt l (by omega) l.length (Nat.le_refl _))
  refine ⟨(pt l (bungN l l.length)).2, hE, ?_, ?_, a, fun j hj => bung_max l l.length hj⟩
  · unfold lying_lies
    rw [h]
    rfl
  · unfold depthM
    rw [h, if_neg (by decide), if_pos (by decide), w64 (by omega) (by omega)]
theorem slC_le {l : List (Int × Int)} {R : Int} (hE : profE l = 0) (top : ∀ j, j < l.length → (pt l j).2 ≤ R) {p : List Int} {i j : Nat} (hj : j + 1 < l.length) (h1 : (pt l j).1 ≤ p.getD i 0) (h2 : p.getD i 0 ≤ p.getD (i + 1) 0) (h3 : p.getD (i + 1) 0 ≤ (pt l (j + 1)).1) : slC l p i ≤ R := by
  have ok := profE_ok hE
  have aux : ∀ x, (pt l j).1 ≤ x → x ≤ (pt l (j + 1)).1 → (nL l j x + hL l j - 1) / hL l j ≤ R := fun x a b => by
    have t1 := top j (by omega)
    have t2 := top (j + 1) hj
    obtain ⟨_, _, q, _⟩ := nL_bound ok hj a b
    have m1 := Int.mul_le_mul_of_nonneg_right t1 (show 0 ≤ (pt l (j + 1)).1 - x by omega)
    have m2 := Int.mul_le_mul_of_nonneg_right t2 (show 0 ≤ x - (pt l j).1 by omega)
    have e : R * hL l j = R * ((pt l (j + 1)).1 - x) + R * (x - (pt l j).1) := by
      rw [← Int.mul_add]
      congr 1
      unfold hL
      omega
    have e2 : nL l j x ≤ R * hL l j := by
      rw [e]
      unfold nL
      omega
    have : (nL l j x + hL l j - 1) / hL l j < R + 1 := Int.ediv_lt_of_lt_mul (by omega) (by rw [Int.add_mul]; omega)
    omega
  unfold slC
  rw [at_seg hE hj h1 (by omega), at_seg hE hj (by omega) h3]
  simp only
  split
  · exact aux _ (by omega) h3
  · exact aux _ h1 (by omega)
theorem places_ok {l : List (Int × Int)} {m : Int} (hE : profE l = 0) (hm : 1 ≤ m) (hm2 : m ≤ 64) : LvOK l (outerS l m (l.length - 1)) (lenP l) := by
  have ok := profE_ok hE
  have two := ok.two
  obtain ⟨g, h⟩ := outerS_grid ok hm hm2 (l.length - 1) (by omega)
  exact ⟨g, Int.le_refl _, fun j hj _ => h j (by omega)⟩
def LB (l : List (Int × Int)) (p : List Int) (R dip n : Int) : Int := sumS (fun i => p.getD i 0) (fun i => AL (hsM dip n (n.toNat + 1)) R (slB l p i)) (p.length - 1)
def LC (l : List (Int × Int)) (p : List Int) (R dip n : Int) : Int := sumS (fun i => p.getD i 0) (fun i => AH (hsM dip n (n.toNat + 1)) R (slC l p i)) (p.length - 1)
theorem lie_err {s : ByteArray} {l : List (Int × Int)} {decl R dip m n : Int} (k : LieOK s l decl R) (hm : 1 ≤ m) (hm2 : m ≤ 64) (h0 : 0 ≤ dip) (h1 : dip ≤ 2 * R) (hn : 1 ≤ n) (hn2 : n ≤ 64) (hp : (outerS l m (l.length - 1)).length > 65) : cutM s 1 l decl dip m n = (0, 0, 15) := by
  have hs1 : lying_strips m = true := by simp [lying_strips]; omega
  have hs2 : lying_strips n = true := by simp [lying_strips]; omega
  have hsl : slicesM l m = ([], 15) := by
    unfold slicesM
    rw [k.hE, if_neg (by decide), hs1, if_neg (by decide), if_pos (by simp; omega)]
  unfold cutM
  rw [k.st, if_neg (by decide), k.dp, hs1, hs2, hsl]
  simp only
  rw [if_neg (by simp; omega), if_pos (by decide)]
theorem lie_eq {s : ByteArray} {l : List (Int × Int)} {decl R dip m n : Int} (k : LieOK s l decl R) (hm : 1 ≤ m) (hm2 : m ≤ 64) (h0 : 0 ≤ dip) (h1 : dip ≤ 2 * R) (hn : 1 ≤ n) (hn2 : n ≤ 64) (hp : (outerS l m (l.length - 1)).length ≤ 65) : cutM s 1 l decl dip m n = (2 * LB l (outerS l m (l.length - 1)) R dip n, 2 * LC l (outerS l m (l.length - 1)) R dip n, 0) := by
  have hs1 : lying_strips m = true := by simp [lying_strips]; omega
  have hs2 : lying_strips n = true := by simp [lying_strips]; omega
  have kp := places_ok k.hE hm hm2
  have hb := lenP_le (profE_ok k.hE)
  have r := k.r
  have hsl : slicesM l m = (outerS l m (l.length - 1), 0) := by
    unfold slicesM
    rw [k.hE, if_neg (by decide), hs1, if_neg (by decide), if_neg (by simp; omega)]
  unfold cutM
  rw [k.st, if_neg (by decide), k.dp, hs1, hs2, hsl]
  simp only
  rw [if_neg (by simp; omega), if_neg (by decide)]
  generalize outerS l m (l.length - 1) = p at *
  have hl := kp.g.len
  have hok : HOK (hsM dip n (n.toNat + 1)) := hs_ok h0 (by omega) hn hn2
  have hod : IntKind.i64.wrap ((2 * R).tdiv 2) = R := by
    rw [Int.tdiv_eq_ediv_of_nonneg (by omega), Int.mul_ediv_cancel_left R (show (2 : Int) ≠ 0 by decide), w64 (by omega) (by omega)]
  obtain ⟨s1, _, _⟩ := betS_eq (l := l) (p := p) (hs := hsM dip n (n.toNat + 1)) (dp := 2 * R) (o := R) hok (by omega) hod (p.length - 1) (by omega) (fun i hi => by have := kp.g.range (i := i) (by omega); omega) (fun i hi => kp.g.mono (by omega) (by omega)) (fun i hi => by have := kp.sl k.hE (i := i) (by omega); omega)
  show ((betS l p (hsM dip n (n.toNat + 1)) (2 * R) (p.length - 1)).1, (betS l p (hsM dip n (n.toNat + 1)) (2 * R) (p.length - 1)).2, 0) = _
  rw [s1]
  rfl
/-! ### What the sums over places obey -/
theorem hs_end {dip n : Int} (h0 : 0 ≤ dip) (h1 : dip ≤ 200000) (hn : 1 ≤ n) (hn2 : n ≤ 64) : (hsM dip n (n.toNat + 1)).getD ((hsM dip n (n.toNat + 1)).length - 1) 0 = dip := by
  rw [hsM_len, Nat.add_sub_cancel]
  exact hs_last h0 h1 hn hn2
theorem LB_LC {l : List (Int × Int)} {p : List Int} {R d e b n k : Int} (hE : profE l = 0) (kp : LvOK l p b) (h0 : 0 ≤ d) (hd : d ≤ e) (he : e ≤ 200000) (hn : 1 ≤ n) (hn2 : n ≤ 64) (hk : 1 ≤ k) (hk2 : k ≤ 64) : LB l p R d n ≤ LC l p R e k := by
  have hl := kp.g.len
  refine sumS_le _ (fun i hi => kp.g.mono (by omega) (by omega)) fun i hi => ?_
  have r := kp.sl hE (i := i) (by omega)
  refine AL_AH (hs_ok h0 (by omega) hn hn2) (hs_ok (by omega) he hk hk2) (hs_first h0 (by omega) hn hn2) (hs_first (by omega) he hk hk2) ?_ (by omega) r.2.1 r.2.2
  rw [hs_end h0 (by omega) hn hn2, hs_end (by omega) he hk hk2]
  exact hd
theorem L_twice {l : List (Int × Int)} {p : List Int} {R d b n : Int} (hE : profE l = 0) (kp : LvOK l p b) (h0 : 0 ≤ d) (hd : d ≤ 200000) (hn : 1 ≤ n) (hn2 : n ≤ 32) : LB l p R d n ≤ LB l p R d (2 * n) ∧ LC l p R d (2 * n) ≤ LC l p R d n := by
  have hl := kp.g.len
  constructor
  · refine sumS_le _ (fun i hi => kp.g.mono (by omega) (by omega)) fun i hi => ?_
    have r := kp.sl hE (i := i) (by omega)
    exact (AL_twice h0 hd hn hn2 (by omega) (by omega)).1
  · refine sumS_le _ (fun i hi => kp.g.mono (by omega) (by omega)) fun i hi => ?_
    have r := kp.sl hE (i := i) (by omega)
    exact (AL_twice h0 hd hn hn2 (by omega) (by omega)).2
theorem A_zero {n o s : Int} (hn : 1 ≤ n) (hn2 : n ≤ 64) (s0 : 0 ≤ s) (s1 : s ≤ 100000) (ho : 0 ≤ o ∧ o ≤ 100000) : AL (hsM 0 n (n.toNat + 1)) o s = 0 ∧ AH (hsM 0 n (n.toNat + 1)) o s = 0 := by
  have k := hs_ok (dip := 0) (Int.le_refl _) (by omega) hn hn2
  have e1 := hs_first (dip := 0) (Int.le_refl _) (by omega) hn hn2
  have e2 := hs_end (dip := 0) (Int.le_refl _) (by omega) hn hn2
  have l := k.len
  obtain ⟨_, a, b⟩ := areaS_eq (s := s) (o := o) (hs := hsM 0 n (n.toNat + 1)) s0 s1 ho ((hsM 0 n (n.toNat + 1)).length - 1) (fun i hi => k.rg i (by omega)) (fun i hi => k.up i (by omega))
  rw [e1, e2] at a b
  unfold AL AH
  omega
theorem L_zero {l : List (Int × Int)} {p : List Int} {R b n : Int} (hE : profE l = 0) (kp : LvOK l p b) (r : 1 ≤ R ∧ R ≤ 100000) (hn : 1 ≤ n) (hn2 : n ≤ 64) : LB l p R 0 n = 0 ∧ LC l p R 0 n = 0 := by
  have hl := kp.g.len
  unfold LB LC
  rw [sumS_const (c := 0) _ (fun i hi => (A_zero hn hn2 (by have := kp.sl hE (i := i) (by omega); omega) (by have := kp.sl hE (i := i) (by omega); omega) ⟨by omega, r.2⟩).1), sumS_const (c := 0) _ (fun i hi => (A_zero hn hn2 (by have := kp.sl hE (i := i) (by omega); omega) (by have := kp.sl hE (i := i) (by omega); omega) ⟨by omega, r.2⟩).2)]
  simp
theorem sumS_mul {h g : Nat → Int} {c : Int} : ∀ k, sumS h (fun i => c * g i) k = c * sumS h g k
  | 0 => by simp [sumS]
  | k + 1 => by
    rw [sumS, sumS, sumS_mul k, Int.mul_add, Int.mul_left_comm c]
theorem LB_full {l : List (Int × Int)} {p : List Int} {R d b n : Int} (hE : profE l = 0) (kp : LvOK l p b) (h0 : 0 ≤ d) (hd : d ≤ 200000) (hn : 1 ≤ n) (hn2 : n ≤ 32) : 339 * (2 * LB l p R d n) ≤ 355 * Fq l (l.length - 1) := by
  have hl := kp.g.len
  have a := fr_lo hE kp.g kp.le kp.pts
  have c := sumS_le (h := fun i => p.getD i 0) (g := fun i => 226 * AL (hsM d n (n.toNat + 1)) R (slB l p i)) (g' := fun i => 355 * (slB l p i * slB l p i)) (p.length - 1) (fun i hi => kp.g.mono (by omega) (by omega)) (fun i hi => by
    have r := kp.sl hE (i := i) (by omega)
    have := AL_le (hs := hsM d n (n.toNat + 1)) (o := R) (s := slB l p i) (hs_ok h0 hd hn (by omega)) (by rw [hsM_len]; omega) (by omega) (by omega)
    omega)
  rw [sumS_mul, sumS_mul] at c
  have e1 : sumS (fun i => p.getD i 0) (fun i => AL (hsM d n (n.toNat + 1)) R (slB l p i)) (p.length - 1) = LB l p R d n := rfl
  have e2 : sumS (fun i => p.getD i 0) (fun i => slB l p i * slB l p i) (p.length - 1) = sqB l p (p.length - 1) := rfl
  rw [e1, e2] at c
  omega
theorem LC_full {l : List (Int × Int)} {p : List Int} {R n : Int} (hE : profE l = 0) (kp : LvOK l p (lenP l)) (top : ∀ j, j < l.length → (pt l j).2 ≤ R) (r : 1 ≤ R ∧ R ≤ 100000) (hn : 1 ≤ n) (hn2 : n ≤ 32) : 333 * Fq l (l.length - 1) ≤ 318 * (2 * LC l p R (2 * R) n) := by
  have hl := kp.g.len
  have a := fr_hi hE kp.g kp.pts
  have c := sumS_le (h := fun i => p.getD i 0) (g := fun i => 333 * (slC l p i * slC l p i)) (g' := fun i => 212 * AH (hsM (2 * R) n (n.toNat + 1)) R (slC l p i)) (p.length - 1) (fun i hi => kp.g.mono (by omega) (by omega)) (fun i hi => by
    have r' := kp.sl hE (i := i) (by omega)
    obtain ⟨j, hj, s1, s2⟩ := seg_of (profE_ok hE) kp.g kp.le kp.pts (i := i) (by omega)
    have t := slC_le hE top hj s1 (kp.g.mono (by omega) (by omega)) s2
    have := AH_ge (hs := hsM (2 * R) n (n.toNat + 1)) (o := R) (s := slC l p i) (hs_ok (by omega) (by omega) hn (by omega)) (by rw [hsM_len]; omega) (by omega) (by omega) (by rw [hs_first (by omega) (by omega) hn (by omega)]; omega) (by rw [hs_end (by omega) (by omega) hn (by omega)]; omega)
    omega)
  rw [sumS_mul, sumS_mul] at c
  have e1 : sumS (fun i => p.getD i 0) (fun i => AH (hsM (2 * R) n (n.toNat + 1)) R (slC l p i)) (p.length - 1) = LC l p R (2 * R) n := rfl
  have e2 : sumS (fun i => p.getD i 0) (fun i => slC l p i * slC l p i) (p.length - 1) = sqC l p (p.length - 1) := rfl
  rw [e1, e2] at c
  omega
theorem lie_true {s : ByteArray} {l : List (Int × Int)} {decl R x y m n : Int} (k : LieOK s l decl R) (hx : 0 ≤ x) (hxy : x ≤ y) (hy : y ≤ 2 * R) (hm : 1 ≤ m) (hm2 : m ≤ 4) (hn : 1 ≤ n) (hn2 : n ≤ 16) :
    ((wetM s 1 l decl x m n).2.2 = 15 ∧ (wetM s 1 l decl y m n).2.2 = 15) ∨ ((wetM s 1 l decl x m n).2.2 = 0 ∧ (wetM s 1 l decl y m n).2.2 = 0 ∧ bndB (wetM s 1 l decl x m n) (wetM s 1 l decl y m n) (wetM s 1 l decl y m (IntKind.i64.wrap (2 * n))) (wetM s 1 l decl 0 m n) (wetM s 1 l decl (2 * R) m n) (capacity_Space l) = true) := by
  have hw : ∀ d q : Int, wetM s 1 l decl d m q = cutM s 1 l decl d m q := fun d q => by rw [wetM, if_pos (by decide)]
  have r := k.r
  rw [hw, hw, hw, hw, hw, w64 (x := 2 * n) (by omega) (by omega)]
  rcases Nat.lt_or_ge 65 (outerS l m (l.length - 1)).length with hp | hp
  · left
    rw [lie_err k hm (by omega) hx (by omega) hn (by omega) hp, lie_err k hm (by omega) (dip := y) (by omega) hy hn (by omega) hp]
    exact ⟨rfl, rfl⟩
  · right
    rw [lie_eq k hm (by omega) hx (by omega) hn (by omega) hp, lie_eq k hm (by omega) (dip := y) (by omega) hy hn (by omega) hp, lie_eq k hm (by omega) (dip := y) (n := 2 * n) (by omega) hy (by omega) (by omega) hp, lie_eq k hm (by omega) (dip := 0) (by omega) (by omega) hn (by omega) hp, lie_eq k hm (by omega) (dip := 2 * R) (by omega) (Int.le_refl _) hn (by omega) hp, cap_eq k.hE]
    have kp := places_ok k.hE hm (by omega)
    have g1 := LB_LC (R := R) (n := n) (k := n) k.hE kp hx hxy (by omega) hn (by omega) hn (by omega)
    have g2 := L_twice (R := R) (d := y) (n := n) k.hE kp (by omega) (by omega) hn (by omega)
    have g3 := L_zero (R := R) (n := n) k.hE kp r hn (by omega)
    have g4 := LB_full (R := R) (d := y) (n := n) k.hE kp (by omega) (by omega) hn (by omega)
    have g5 := LB_full (R := R) (d := 2 * R) (n := n) k.hE kp (by omega) (by omega) hn (by omega)
    have g6 := LC_full (n := n) k.hE kp k.top r hn (by omega)
    generalize outerS l m (l.length - 1) = p at *
    rw [g3.1, g3.2]
    refine ⟨rfl, rfl, ?_⟩
    simp only [bndB, spL, spH, Bool.and_eq_true, decide_eq_true_eq, beq_iff_eq]
    and_intros <;> first | trivial | omega | (apply decide_eq_true; omega)
theorem topBnd_true (s : ByteArray) (pos : Int) (l : List (Int × Int)) (decl u v m n : Int) : topBnd s pos l decl u v m n = true := by
  unfold topBnd
  split
  · rfl
  rename_i h1
  have hg : (1 ≤ m ∧ m ≤ 4) ∧ (1 ≤ n ∧ n ≤ 16) := by
    simp only [Bool.or_eq_true, decide_eq_true_eq, not_or] at h1
    omega
  have huv := mn_mx u v
  generalize mn2 u v = x at *
  generalize mx2 u v = y at *
  by_cases hck : cask_Check s pos l decl = 0
  · obtain ⟨hE, hpos⟩ := check_prof hck
    rcases hpos with rfl | rfl
    · obtain ⟨R, k⟩ := lie_ok hck
      rw [k.dp, if_neg (by simp)]
      simp only
      split
      · rfl
      rename_i h2
      simp only [Bool.or_eq_true, decide_eq_true_eq, not_or] at h2
      rcases lie_true k (x := x) (y := y) (m := m) (n := n) (by omega) huv (by omega) hg.1.1 hg.1.2 hg.2.1 hg.2.2 with ⟨a, b⟩ | ⟨a, b, c⟩
      · rw [a, b, if_pos (by decide)]
        rfl
      · rw [a, b, if_neg (by decide)]
        exact c
    · have hst : standing_stands s 2 l decl = 0 := by
        unfold standing_stands
        rw [hck]
        rfl
      have hd : depthM s 2 l decl = (lenP l, 0) := by
        unfold depthM
        rw [hck, if_neg (by decide), if_neg (by decide)]
      rw [hd, if_neg (by simp)]
      simp only
      split
      · rfl
      rename_i h2
      simp only [Bool.or_eq_true, decide_eq_true_eq, not_or] at h2
      obtain ⟨a, b, c⟩ := stand_true (s := s) (l := l) (decl := decl) (x := x) (y := y) (m := m) (n := n) hE hst (by omega) huv (by omega) hg.2.1 hg.2.2
      rw [a, b, if_neg (by decide)]
      exact c
  · have hd : depthM s pos l decl = (0, cask_Check s pos l decl) := by
      unfold depthM
      rw [if_pos (by simpa using hck)]
    rw [hd, if_pos (by simpa using hck)]
    rfl
end Go.Proofs.YtphipfmidfoflaaGreat
/- Top: TopBounds for every argument. -/
set_option linter.unusedVariables false
set_option linter.unusedSimpArgs false
set_option maxRecDepth 8000
set_option maxHeartbeats 2000000
namespace Go.Proofs.YtphipfmidfoflaaGreat
open Go.Sx Go.RowKit
/-! ### TopBounds for every argument -/
theorem pick_listL {β : Type} {p : β → List Value → Prop} : ∀ {l : List (List Value)}, (∀ es ∈ l, ∃ b, p b es) → ∃ bs : List β, bs.length = l.length ∧ ∀ i (hi : i < l.length) (hj : i < bs.length), p bs[i] l[i]
  | [], _ => ⟨[], rfl, fun i hi => absurd hi (Nat.not_lt_zero i)⟩
  | es :: l, h => by
    obtain ⟨b, hb⟩ := h es List.mem_cons_self
    obtain ⟨bs, h1, h2⟩ := pick_listL (l := l) fun e he => h e (List.mem_cons_of_mem _ he)
    refine ⟨b :: bs, by simp [h1], fun i hi hj => ?_⟩
    cases i with
    | zero => exact hb
    | succ i => exact h2 i (by simpa using hi) (by simpa using hj)
theorem TopBounds_row (s : ByteArray) (pos : Int) (A : Option Addr) (c : Nat) (ess : List (List Value)) (decl : Int) (hz : s.size ≤ maxLen) (hp : (Lit.int .i64 pos).wf = true) (hd : (Lit.int .i64 decl).wf = true) (u v m n : Int) (w : World)
    (r0 : RdRow w A ess.length 2 (fun i => ess.getD i [])) (n0 : A = none → ess.length = 0) (m0 : ess.length ≤ maxLen ∧ ess.length ≤ c) (w0 : ∀ es ∈ ess, LeafAll (Leaf.says w 3) [.int .i64, .int .i64] es) :
    Calls Tryz.prog 3 #[.agg #[.string s, I pos, .slice A ess.length c, I decl], I u, I v, I m, I n] w fun e w' => e = .returned (.bool true) ∧ Below w.heap.size w w' := by
  obtain ⟨l, h1, h2⟩ := pick_listL (β := Int × Int) (p := fun x es => es = [I x.1, I x.2]) (l := ess) fun es he => by
    obtain ⟨_, _, rfl, ⟨a0, rfl, _⟩, e0⟩ := (w0 es he).cons
    obtain ⟨_, _, rfl, ⟨a1, rfl, _⟩, e1⟩ := e0.cons
    obtain rfl := e1.nil
    exact ⟨(a0, a1), rfl⟩
  have hr : RdRow w A l.length 2 (elP l) := by
    rw [h1]
    refine r0.congr fun i hi => ?_
    show elP l i = _
    rw [elP, List.getD_eq_getElem?_getD, List.getD_eq_getElem?_getD, List.getElem?_eq_getElem hi, List.getElem?_eq_getElem (by omega)]
    exact (h2 i hi (by omega)).symm
  have hs : s.size ≤ 9223372036854775807 := by
    unfold maxLen at hz
    omega
  have := topBnd_any s pos A c l decl u v m n w hr hs
  rw [h1, topBnd_true] at this
  exact this
end Go.Proofs.YtphipfmidfoflaaGreat
