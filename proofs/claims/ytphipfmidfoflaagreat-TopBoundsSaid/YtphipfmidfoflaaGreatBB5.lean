/- The symbolic executor, part BI: append onto a row that is told of as a constant, in a region that draws. Generic over P. -/
import Derived.Test.YtphipfmidfoflaaGreatBB4
import Derived.Shelf.Sort.Plain
import Derived.Ground.Names2Prog
import Derived.Shelf.Slices.Clone
import Derived.Shelf.Slices.CompactI
import Derived.Test.YtphipfmidfoflaaGreatProg
import Derived.Sort.OwnSortedInts
import Derived.MapKept
/- The symbolic executor, part BG: rows that are told of as constants and grow: append onto them, closures that append to a captured row. Generic over P. -/
set_option linter.unusedVariables false
set_option linter.unusedSimpArgs false
namespace Go.Sx
open Go.RowKit
/-- A row that append may write behind: nil, or the head of a block of ours. -/
def GrowAt (w : World) (A : Option Addr) (n c : Nat) (e : TypeId) (size : Nat) (el : Nat → List Value) : Prop := (n = 0 ∧ A = none ∧ c = 0) ∨ ∃ b, A = some ⟨b, 0, none⟩ ∧ OwnAt w b e n size el ((c - n) * size) ∧ n ≤ c
/-- The blocks of such a row. -/
def gb (A : Option Addr) (k : Nat) : Prop := ∃ a, A = some a ∧ k = a.block
theorem GrowAt.steady {A : Option Addr} {n c : Nat} {e : TypeId} {size : Nat} {el : Nat → List Value} : Steady (gb A) (fun w => GrowAt w A n c e size el) := by
  rintro w1 w2 h1 h2 (⟨rfl, rfl, rfl⟩ | ⟨b, rfl, ⟨a, k1, k2, k3⟩, h3⟩)
  · exact .inl ⟨rfl, rfl, rfl⟩
  · exact .inr ⟨b, rfl, ⟨a, (h1 b ⟨_, rfl, rfl⟩).trans k1, k2, k3⟩, h3⟩
theorem GrowAt.lt {w : World} {A : Option Addr} {n c : Nat} {e : TypeId} {size : Nat} {el : Nat → List Value} (h : GrowAt w A n c e size el) : ∀ k, gb A k → k < w.heap.size := by
  rintro k ⟨a, rfl, rfl⟩
  rcases h with ⟨_, h, _⟩ | ⟨b, h, ⟨a', k1, _⟩, _⟩
  · cases h
  · injection h with h
    rw [h]
    exact lt_of_heap k1
theorem OwnAt.row {w : World} {b : Nat} {ty : TypeId} {n sz : Nat} {el : Nat → List Value} {room : Nat} (h : OwnAt w b ty n sz el room) : RdRow w (some ⟨b, 0, none⟩) n sz el := by
  obtain ⟨a, h1, h2, h3⟩ := h
  refine fun _ => ⟨b, 0, rfl, lt_of_heap h1, fun i hi => ⟨(h3 i hi).1, fun j hj => ?_⟩⟩
  rw [cell_of_heap h1, Nat.zero_add]
  exact (h3 i hi).2 j hj
theorem GrowAt.rd {w : World} {A : Option Addr} {n c : Nat} {e : TypeId} {size : Nat} {el : Nat → List Value} (h : GrowAt w A n c e size el) : RdRow w A n size el := by
  rcases h with ⟨rfl, rfl, rfl⟩ | ⟨b, rfl, h, _⟩
  · exact RdRow.nil _ _ _ _
  · exact h.row
section
variable {P : Program} {E : Env} {K : Exit → St → Prop} {T : Tab} {ops : Array Oper} {rest : List Oper}
theorem append_at {t e size bytes : Nat} {z : Value} (hp : ApT P t e size bytes z) {ty ty1 : TypeId} {w : World} {A : Option Addr} {n c : Nat} {el : Nat → List Value} (hgr : GrowAt w A n c e size el) {bq c1 : Nat} {vs : List Value} (hq : w.heap[bq]? = some (.cells vs.toArray ty1 (0, 0))) (hv : vs.length = size) (h1 : ∀ u ∈ vs, u.oneCell' = true)
    (hlen : ∀ k, k < n → (el k).length = size) (b1 : n + 1 ≤ maxLen) (b2 : (n + 1) * bytes ≤ 140737488355328) :
    ∃ g c' w', n + 1 ≤ c' ∧ (Builtin.append_ #[t, t] ty #[.slice A n c, .slice (some ⟨bq, 0, none⟩) 1 c1]).run P w = .ok (.slice (some ⟨g, 0, none⟩) (n + 1) c') w' ∧ w'.os = w.os ∧ w'.tape = w.tape ∧ w'.output = w.output ∧ w.heap.size ≤ w'.heap.size ∧
      (∀ k, k < w.heap.size → ¬ gb A k → w'.heap[k]? = w.heap[k]?) ∧ (A = some ⟨g, 0, none⟩ ∨ w.heap.size ≤ g) ∧ OwnAt w' g e (n + 1) size (elN el n vs) ((c' - (n + 1)) * size) := by
  obtain ⟨i, hi, hz, hsi, hbi⟩ := hp.info
  have hnews : ∀ j u, vs[j]? = some u → w.cell? ((⟨bq, 0, none⟩ : Addr).add j) = some u := by
    intro j u hj
    rw [Addr.add_lit]
    simp [World.cell?, hq, hj]
  have hl1 : vs.length = 1 * size := by rw [hv, Nat.one_mul]
  rcases hgr with ⟨rfl, rfl, rfl⟩ | ⟨b, rfl, hown, hnc0⟩
  · have hone : ∀ i, i < 1 → elN el 0 vs i = vs := fun i hi => by
      have : i = 0 := by omega
      subst this
      exact elN_eq
    have hr' : RdRow w (some ⟨bq, 0, none⟩) 1 size (elN el 0 vs) := fun _ => by
      refine ⟨bq, 0, rfl, lt_of_heap hq, fun i hi => ?_⟩
      rw [hone i hi]
      refine ⟨hv, fun j hj => ?_⟩
      have : i = 0 := by omega
      subst this
      rw [cell_of_heap hq, Nat.zero_mul, Nat.zero_add, Nat.zero_add, List.getElem?_toArray]
    rcases append_new (ty := ty) hp (A := none) (c := c1) hr' (fun i hi u hu => h1 u (by rw [hone i hi] at hu; exact hu)) (by omega) (by omega) with ⟨h0, _⟩ | ⟨h0, v', w', hrun, r1, r2⟩
    · cases h0
    · rcases r1.2 with ⟨_, h0⟩ | ⟨g, c', cur, rfl, hbg, hgg, hnc, hcm, hcs, htake⟩
      · omega
      refine ⟨g, c', w', hnc, hrun, r2.os, r2.tape, r2.output, r2.size, fun k hk _ => r2.block k hk (by simp), .inr hbg, cur, hgg, ?_, fun i' hi' => ⟨?_, fun j hj => ?_⟩⟩
      · rw [hcs, ← Nat.add_mul]
        exact Nat.mul_le_mul_right _ (by omega)
      · rw [hone i' (by omega)]; exact hv
      · have hlen' : ∀ k, k < 1 → (elN el 0 vs k).length = size := fun k hk => by rw [hone k hk]; exact hv
        rw [← flatE_at hlen' (show i' < 1 by omega) hj, ← htake, List.getElem?_take, if_pos (by
          have : i' = 0 := by omega
          subst this
          omega)]
        simp
  · obtain ⟨hf1, hf2⟩ := hown.hold
    by_cases hr : n + 1 ≤ c
    · obtain ⟨cur, g1, g2, g3⟩ := hown
      have hle1 : (n + 1) * size ≤ n * size + (c - n) * size := by
        have := Nat.mul_le_mul_right size (show 1 ≤ c - n by omega)
        rw [Nat.add_mul]
        omega
      have hfit : n * i.size + vs.length ≤ cur.size := by rw [hsi, hv]; rw [Nat.add_mul] at hle1; omega
      have hrun := run_append_room (P := P) w t ty e i hp.ht hi b n c cur g1 ⟨bq, 0, none⟩ 1 c1 vs (by rw [hsi]; exact hl1) hnews h1 hr hfit
      refine ⟨b, c, _, hr, hrun, rfl, rfl, rfl, by simp, fun k _ hk => setRow_other w b k _ (fun e => hk ⟨_, rfl, e⟩), .inl rfl, _, setRow_heap w b cur _ e _ g1, ?_, fun i' hi' => ⟨?_, fun j hj => ?_⟩⟩
      · simp only [List.size_toArray, List.length_append, List.length_take, List.length_drop, Array.length_toList]
        have : (n + 1) * size + (c - (n + 1)) * size = n * size + (c - n) * size := by
          rw [← Nat.add_mul, ← Nat.add_mul]
          congr 1
          omega
        rw [hsi] at hfit ⊢
        omega
      · by_cases h : i' < n
        · rw [elN_lt h]; exact hlen i' h
        · rw [show i' = n by omega, elN_eq]; exact hv
      · have hsz : n * i.size ≤ cur.size := by omega
        by_cases h : i' < n
        · have hlt : i' * size + j < n * size := by
            have := Nat.mul_le_mul_right size (show i' + 1 ≤ n from h)
            rw [Nat.add_mul] at this
            omega
          rw [elN_lt h, ← (g3 i' h).2 j hj]
          rw [hsi] at hsz ⊢
          simp only [List.getElem?_toArray]
          rw [List.append_assoc, List.getElem?_append_left (by simp; omega), List.getElem?_take, if_pos hlt]
          simp
        · have e1 : i' = n := by omega
          subst e1
          rw [elN_eq]
          rw [hsi] at hsz ⊢
          simp only [List.getElem?_toArray]
          have hl2 : (List.take (i' * size) cur.toList).length = i' * size := by simp; omega
          rw [List.append_assoc, List.getElem?_append_right (by rw [hl2]; omega), hl2, List.getElem?_append_left (by omega)]
          congr 1
          omega
    · obtain ⟨v', w', hrun, r1, r2⟩ := run_append_arg_grows (P := P) w t ty e i z size bytes hp.ht hi hz hsi hbi hp.hz hp.pos ⟨b, 0, none⟩ n c (flatE el 0 n) hf1 hf2 ⟨bq, 0, none⟩ 1 c1 vs hl1 hnews (by omega) b1 b2
      rcases r1.2 with ⟨_, h0⟩ | ⟨g, c', cur, rfl, hbg, hgg, hnc, hcm, hcs, htake⟩
      · omega
      refine ⟨g, c', w', hnc, hrun, r2.os, r2.tape, r2.output, r2.size, fun k hk _ => r2.block k hk (by simp), .inr hbg, cur, hgg, ?_, fun i' hi' => ⟨?_, fun j hj => ?_⟩⟩
      · rw [hcs, ← Nat.add_mul]
        exact Nat.mul_le_mul_right _ (by omega)
      · by_cases h : i' < n
        · rw [elN_lt h]; exact hlen i' h
        · rw [show i' = n by omega, elN_eq]; exact hv
      · rw [← news_at hlen hv hi' hj, ← htake, List.getElem?_take, if_pos (by
          have := Nat.mul_le_mul_right size (show i' + 1 ≤ n + 1 from hi')
          rw [Nat.add_mul] at this
          omega)]
        simp
/-- All names but X are of blocks of ours. -/
def OwnX (X : Nat) (m : Mem) : Prop := ∀ x b, x ≠ X → m x = some b → b.own
theorem OwnX.up {X : Nat} {m : Mem} (h : OwnX X m) (y : Nat) {b' : Blk} (hb : b'.own) : OwnX X (Sx.up m y (some b')) := by
  intro x b hx hxb
  by_cases e : x = y
  · subst e
    rw [up_same] at hxb
    injection hxb with hxb
    exact hxb ▸ hb
  · rw [up_other _ _ e] at hxb
    exact h x b hx hxb
def ownLX (X : Nat) : List (Nat × Blk) → Prop
  | [] => True
  | p :: r => (p.1 = X ∨ p.2.own) ∧ ownLX X r
theorem OwnX.lk {X : Nat} : ∀ {ml : List (Nat × Blk)}, ownLX X ml → OwnX X (lkM ml)
  | [], _ => fun x b _ h => by cases h
  | p :: r, h => fun x b hx hb => by
    have hb : (bif Nat.beq x p.1 then some p.2 else lkM r x) = some b := hb
    cases e : Nat.beq x p.1 with
    | true =>
      rw [e] at hb
      injection hb with hb
      rcases h.1 with h1 | h1
      · exact absurd ((Nat.eq_of_beq_eq_true e).trans h1) hx
      · exact hb ▸ h1
    | false =>
      rw [e] at hb
      exact OwnX.lk h.2 x b hx hb
/-- Append of one element onto a row that is told of as a constant; the row's block may be one of the function's own or a borrowed one (L). -/
theorem GO.appendSay {o : Oper} {s y : Operand} {t e size bytes d n c : Nat} {z : Value} {t0 : Nat → TV} {m : Mem} {A : Option Addr} {el : Nat → List Value} {q c1 : Nat} {ty1 : TypeId} (X : Nat) (vs : List Value) (hp : ApT P t e size bytes z) (hg : o.guard = none) (hop : o.op = .call { callee := .builtin .append, args := #[s, y], argTypes := #[t, t] })
    (hd : o.dst = some d) (hdN : Nat.blt d E.N = true) (hs : evT t0 s = .v (.c (.k (.slice A n c)))) (hX : m X = some (.say (gb A) fun w => GrowAt w A n c e size el)) (hbo : ∀ k, gb A k → E.w0.heap.size ≤ k ∨ k ∈ E.bor.map (·.2)) (hap : OwnX X m)
    (hy : evT t0 y = .v (.c (.slc q 0 size 1 c1))) (hq : m q = some (.var ty1 (vs.map .k))) (hv : vs.length = size) (h1 : ∀ u ∈ vs, u.oneCell' = true)
    (hlen : ∀ k, k < n → (el k).length = size) (b1 : n + 1 ≤ maxLen) (b2 : (n + 1) * bytes ≤ 140737488355328)
    (k : ∀ g c', n + 1 ≤ c' → (A = some ⟨g, 0, none⟩ ∨ E.w0.heap.size ≤ g) → GO P E ops K rest ⟨up t0 d (.v (.c (.k (.slice (some ⟨g, 0, none⟩) (n + 1) c')))), up m X (some (.say (gb (some ⟨g, 0, none⟩)) fun w => GrowAt w (some ⟨g, 0, none⟩) (n + 1) c' e size (elN el n vs)))⟩) : GO P E ops K (o :: rest) ⟨t0, m⟩ := by
  intro ρ a w hsat
  have es : a.eval s = .slice A n c := by have := hsat.eval s; simp only [St.ev, hs] at this; exact this.2
  have hvar := hsat.mem.ok q _ hq
  have ey : a.eval y = .slice (some ⟨(ρ q).1, 0, none⟩) 1 c1 := by
    have := hsat.eval y
    simp only [St.ev, hy] at this
    have := this.2
    simpa [AV.conc, AC.conc, hvar.1] using this
  have hqc := hvar.2.2.1
  rw [map_conc_k] at hqc
  obtain ⟨x1, x2, x3⟩ := hsat.mem.ok X _ hX
  obtain ⟨g, c', w', r0, hrun, r1, r2, r3, r4, r5, r6, r7⟩ := append_at (ty := o.type) (c1 := c1) hp x1 hqc hv h1 hlen b1 b2
  have hex : (execOp a.eval o).run P w = .ok (.value (.slice (some ⟨g, 0, none⟩) (n + 1) c')) w' := by
    simp [execOp, hop, resolve, invoke, builtin, es, ey, hrun, Result.andThen]
  unfold wpL
  rw [if_pos (by simp [Region.wanted, hg])]
  refine .inl ?_
  unfold Oper.wp
  rw [hex]
  have hgr : GrowAt w' (some ⟨g, 0, none⟩) (n + 1) c' e size (elN el n vs) := .inr ⟨g, rfl, r7, r0⟩
  have hsz : ∀ u, (m u).isSome = true → (up m X (some (.say (gb (some ⟨g, 0, none⟩)) fun w => GrowAt w (some ⟨g, 0, none⟩) (n + 1) c' e size (elN el n vs))) u).isSome = true := fun u hu => isSome_up u hu
  have hfr : Fr E.w0 (E.bor.map (·.2)) w' := ⟨r1.trans hsat.mem.fr.os, r2.trans hsat.mem.fr.tape, r3.trans hsat.mem.fr.output, Nat.le_trans hsat.mem.fr.size r4, fun j hj hn => by
    refine (r5 j (Nat.lt_of_lt_of_le hj hsat.mem.fr.size) fun hgb => ?_).trans (hsat.mem.fr.block j hj hn)
    rcases hbo j hgb with h | h
    · omega
    · exact hn h⟩
  have hne : ∀ x b, x ≠ X → m x = some b → b.own → ¬ gb A (ρ x).1 := fun x b hx hb ho => hsat.mem.ne x X b _ hb hX ho trivial hx
  have hnew : ∀ x b, x ≠ X → m x = some b → b.own → (ρ x).1 ≠ g := by
    intro x b hx hb ho e
    rcases r6 with h | h
    · exact hne x b hx hb ho ⟨_, h, e⟩
    · have := hsat.mem.lt hb ho; omega
  have hM : SatM E ρ (up m X (some (.say (gb (some ⟨g, 0, none⟩)) fun w => GrowAt w (some ⟨g, 0, none⟩) (n + 1) c' e size (elN el n vs)))) w' := by
    refine hsat.mem.swap hfr r4 hsz fun x b hx => ?_
    by_cases e : x = X
    · subst e
      rw [up_same] at hx
      injection hx with hx
      subst hx
      refine .inr (.inl ⟨_, _, rfl, hgr, hgr.lt, GrowAt.steady, fun y c hy hc ho => ?_⟩)
      rw [up_other _ _ hy] at hc
      rintro ⟨a', e', h'⟩
      injection e' with e'
      rw [← e'] at h'
      exact hnew y c hy hc ho h'
    · rw [up_other _ _ e] at hx
      refine .inl ⟨hx, fun k hlv hk => r5 k (hsat.mem.lt' hx hlv hk) fun hgb => ?_⟩
      have ho := hap x b e hx
      rw [(Blk.own_hits ho).1 hk] at hgb
      exact hne x b e hx ho hgb
  refine k g c' r0 (r6.imp id fun h => Nat.le_trans hsat.mem.fr.size h) ρ _ w' ?_
  rw [hd]
  exact (hsat.remem0 hM hsz).put (by simpa [Nat.blt_eq] using hdN) ⟨trivial, rfl⟩
/-- Variables of ours and what is told under X are turned. -/
def turnedX (m : Mem) (X : Nat) (b : Blk) : List Tn → Mem
  | [] => up m X (some b)
  | t :: r => fun y => bif Nat.beq y t.x then some (.var t.ty (t.cs.map .k)) else turnedX m X b r y
theorem turnedX_cases {m : Mem} {X : Nat} {b : Blk} {l : List Tn} : ∀ {y : Nat}, (∃ t ∈ l, y = t.x ∧ turnedX m X b l y = some (.var t.ty (t.cs.map .k))) ∨ ((∀ t ∈ l, y ≠ t.x) ∧ turnedX m X b l y = up m X (some b) y) := by
  induction l with
  | nil => intro y; exact .inr ⟨(fun t ht => by cases ht), rfl⟩
  | cons t r ih =>
    intro y
    by_cases e : y = t.x
    · refine .inl ⟨t, by simp, e, ?_⟩
      show (bif Nat.beq y t.x then _ else _) = _
      rw [e]; simp
    · have h0 : turnedX m X b (t :: r) y = turnedX m X b r y := by
        show (bif Nat.beq y t.x then _ else _) = _
        rw [nbeq e]; rfl
      rcases ih (y := y) with ⟨s, hs, h1, h2⟩ | ⟨h1, h2⟩
      · exact .inl ⟨s, by simp [hs], h1, h0.trans h2⟩
      · refine .inr ⟨fun s hs => ?_, h0.trans h2⟩
        rcases List.mem_cons.1 hs with rfl | hs
        · exact e
        · exact h1 s hs
theorem SatM.turnX {ρ : Val} {m : Mem} {w w' : World} (h : SatM E ρ m w) {l : List Tn} (hl : ∀ t ∈ l, ∃ cells, m t.x = some (.var t.ty cells)) {X : Nat} {S S' : Nat → Prop} {R R' : World → Prop} (hX : m X = some (.say S R)) {F : List Nat} (hfr : Fr w F w') (hF : ∀ k ∈ F, (∃ t ∈ l, k = (ρ t.x).1) ∨ S k) (hE : ∀ k, S k → E.w0.heap.size ≤ k)
    (hcells : ∀ t ∈ l, w'.heap[(ρ t.x).1]? = some (.cells t.cs.toArray t.ty (0, 0))) (hr : R' w') (hS' : ∀ k, S' k → (w.heap.size ≤ k ∨ S k) ∧ k < w'.heap.size) (hst : Steady S' R') (hap : ∀ x b, x ≠ X → m x = some b → b.live → b.own ∨ ∀ k, b.hits (ρ x) k → ¬ S k) :
    SatM E ρ (turnedX m X (.say S' R') l) w' := by
  have hlX : ∀ t ∈ l, t.x ≠ X := fun t ht e => by obtain ⟨cs, hc⟩ := hl t ht; rw [e, hX] at hc; cases hc
  have hsz : ∀ z, (m z).isSome = true → (turnedX m X (.say S' R') l z).isSome = true := fun z hz => by
    rcases turnedX_cases (m := m) (X := X) (b := .say S' R') (l := l) (y := z) with ⟨t, _, _, h2⟩ | ⟨_, h2⟩
    · rw [h2]; rfl
    · rw [h2]; exact isSome_up z hz
  have hfrE : Fr E.w0 (E.bor.map (·.2)) w' := h.fr.trans' hfr fun k hk hkF => by
    rcases hF k hkF with ⟨t, ht, rfl⟩ | hS
    · obtain ⟨cs, hc⟩ := hl t ht
      rcases h.ownGe hc trivial with h1 | h1
      · omega
      · exact List.mem_map_of_mem (f := (·.2)) h1
    · have := hE k hS; omega
  have hkeep : ∀ x b, x ≠ X → (∀ t ∈ l, x ≠ t.x) → m x = some b → ∀ k, b.live → b.hits (ρ x) k → w'.heap[k]? = w.heap[k]? := by
    intro x b hx hxt hb k hlv hk
    refine hfr.block k (h.lt' hb hlv hk) fun hkF => ?_
    rcases hF k hkF with ⟨t, ht, rfl⟩ | hS
    · obtain ⟨cs, hc⟩ := hl t ht
      exact h.ne t.x x _ b hc hb trivial hlv (Ne.symm (hxt t ht)) hk
    · rcases hap x b hx hb hlv with ho | h2
      · rw [(Blk.own_hits ho).1 hk] at hS
        exact h.ne x X b _ hb hX ho trivial hx hS
      · exact h2 k hk hS
  have cls : ∀ z b, turnedX m X (.say S' R') l z = some b → (∃ t ∈ l, z = t.x ∧ b = .var t.ty (t.cs.map .k)) ∨ (z = X ∧ b = .say S' R') ∨ (z ≠ X ∧ (∀ t ∈ l, z ≠ t.x) ∧ m z = some b) := by
    intro z b hz
    rcases turnedX_cases (m := m) (X := X) (b := .say S' R') (l := l) (y := z) with ⟨t, ht, h1, h2⟩ | ⟨h1, h2⟩
    · rw [h2] at hz; injection hz with hz; exact .inl ⟨t, ht, h1, hz.symm⟩
    · rw [h2] at hz
      by_cases e : z = X
      · subst e
        rw [up_same] at hz; injection hz with hz; exact .inr (.inl ⟨rfl, hz.symm⟩)
      · rw [up_other _ _ e] at hz; exact .inr (.inr ⟨e, h1, hz⟩)
  have own : ∀ z b, turnedX m X (.say S' R') l z = some b → b.own → z ≠ X ∧ ∃ b0, m z = some b0 ∧ b0.own := by
    intro z b hz hob
    rcases cls z b hz with ⟨t, ht, rfl, rfl⟩ | ⟨rfl, rfl⟩ | ⟨e, h1, hm⟩
    · obtain ⟨cs, hc⟩ := hl t ht
      exact ⟨hlX t ht, _, hc, trivial⟩
    · exact hob.elim
    · exact ⟨e, b, hm, hob⟩
  refine ⟨hfrE, h.bo, fun z b hz => ?_, fun x y b c hx hy ho hlv hne => ?_⟩
  · rcases cls z b hz with ⟨t, ht, rfl, rfl⟩ | ⟨rfl, rfl⟩ | ⟨e, h1, hm⟩
    · obtain ⟨cs, hc⟩ := hl t ht
      have h3 := h.ok _ _ hc
      refine ⟨h3.1, h3.2.1, ?_, fun c hc => ?_⟩
      · rw [hcells t ht, map_kc]
      · obtain ⟨v, _, rfl⟩ := List.mem_map.1 hc; trivial
    · exact ⟨hr, fun k hk => (hS' k hk).2, hst⟩
    · exact (h.ok z b hm).far hsz hfr.size fun k hk hlv => hkeep z b e h1 hm k hlv hk
  · obtain ⟨hxX, b0, hb0, ho0⟩ := own x b hx ho
    rcases cls y c hy with ⟨t, ht, rfl, rfl⟩ | ⟨rfl, rfl⟩ | ⟨e, h1, hm⟩
    · obtain ⟨cs, hc⟩ := hl t ht
      have := h.ne x t.x b0 (.var t.ty cs) hb0 hc ho0 trivial hne
      exact this
    · intro hk
      rcases (hS' _ hk).1 with h2 | h2
      · have := h.lt hb0 ho0; omega
      · exact h.ne x y b0 _ hb0 hX ho0 trivial hxX h2
    · exact h.ne x y b0 c hb0 hm ho0 hlv hne
def turnF (l : Cho → List Tn) (X : Nat) (R' : Cho → World → Prop) (v : Value) (nm : List Nat) : Fam := ⟨fun _ => toTV v, fun u => (l u).map (fun t => (t.x, .var t.ty (t.cs.map .k))) ++ [(X, .say u.2 (R' u))], nm, true⟩
theorem upm_turned {m : Mem} {X : Nat} {b : Blk} (l : List Tn) : upm m (l.map (fun t => (t.x, .var t.ty (t.cs.map .k))) ++ [(X, b)]) = turnedX m X b l := by
  funext y
  induction l with
  | nil =>
    simp only [List.map_nil, List.nil_append, upm, mget, turnedX, up]
    cases Nat.beq y X <;> rfl
  | cons t r ih =>
    simp only [upm, List.map_cons, List.cons_append, mget, turnedX]
    cases Nat.beq y t.x with
    | true => rfl
    | false =>
      simp only [cond_false]
      exact ih
theorem StepsC.callTurnX {o : Oper} {c : Call} {f : FuncId} {avs : List AV} {caps : List Cap} {C : St} {v : Value} {S : Nat → Prop} {R : World → Prop} (l : Cho → List Tn) (X : Nat) (R' : Cho → World → Prop) (nm : List Nat) (hg : o.guard = none) (hop : o.op = .call c) (he : callE C.t c = .mk f avs caps) (hd : dstOk E.N o.dst = true)
    (hcf : ∀ (args : Array Value) (w : World), (callFunc f args).run P w = .ok (.enter f args) w) (hl : ∀ i, ∀ b ∈ l i, ∃ cells, C.m b.x = some (.var b.ty cells)) (hX : C.m X = some (.say S R)) (hE : ∀ w, R w → ∀ k, S k → E.w0.heap.size ≤ k)
    (hap : ∀ ρ a w, Sat E ρ C a w → ∀ x b, x ≠ X → C.m x = some b → b.live → b.own ∨ ∀ k, b.hits (ρ x) k → ¬ S k)
    (hc : ∀ ρ w, SatM E ρ C.m w → (∀ v ∈ avs, v.ok ρ C.m) → (∀ v ∈ caps, v.ok C.m) → Calls P f (avs.map (AV.conc ρ) ++ caps.map (Cap.conc ρ)).toArray w fun e w' => ∃ i F, e = .returned v ∧ Fr w F w' ∧ (∀ k ∈ F, (∃ t ∈ l i, k = (ρ t.x).1) ∨ S k) ∧ (∀ b ∈ l i, w'.heap[(ρ b.x).1]? = some (.cells b.cs.toArray b.ty (0, 0))) ∧ R' i w' ∧ (∀ k, i.2 k → (w.heap.size ≤ k ∨ S k) ∧ k < w'.heap.size) ∧ Steady i.2 (R' i)) :
    StepsC P E ops o C (turnF l X R' v nm) := by
  intro st hle hfull ρ a w hs Kc Q hk
  have hm : st.m = C.m := hfull rfl
  have hs' := hs.weakT hle.t
  obtain ⟨hr, hok, hok2⟩ := call_run hs' hop he hcf
  have hsC : Sat E ρ C a w := by
    have : (⟨C.t, st.m⟩ : St) = C := by rw [hm]
    rw [← this]; exact hs'
  rw [if_pos (by simp [Region.wanted, hg])]
  refine .inl ?_
  unfold Oper.wp
  rw [hr]
  have hsm : SatM E ρ C.m w := hm ▸ hs.mem
  refine (hc ρ w hsm (hm ▸ hok) (hm ▸ hok2)).mono ?_
  rintro e w' ⟨i, F, rfl, hf, hF, hn, hr', hS', hst⟩
  have hM := hsm.turnX (hl i) hX hf hF (hE w (hsm.ok X _ hX).1) hn hr' hS' hst (hap ρ a w hsC)
  refine hk i ρ _ w' ?_
  show Sat E ρ ⟨Sx.putT st.t o.dst (toTV v), upm st.m ((l i).map (fun t => (t.x, .var t.ty (t.cs.map .k))) ++ [(X, .say i.2 (R' i))])⟩ _ w'
  rw [upm_turned, hm]
  have hs2 : Sat E ρ ⟨st.t, C.m⟩ a w := hm ▸ hs
  refine (hs2.remem0 hM fun z hz => ?_).putT (dstOk_lt hd) (toTV_rep _ _ v)
  rcases turnedX_cases (m := C.m) (X := X) (b := .say i.2 (R' i)) (l := l i) (y := z) with ⟨t, _, _, h2⟩ | ⟨_, h2⟩
  · rw [h2]; rfl
  · rw [h2]; exact isSome_up z hz
theorem G.toPtr {c : Code} {t : Nat → TV} {m : Mem} (d x : Nat) {g : Nat} (h : t d = .v (.c (.k (.pointer (some ⟨g, 0, none⟩))))) (hb : (x, g) ∈ E.bor) (hx : (m x).isSome = true) (k : G P E K c ⟨up t d (.v (.c (.ptr x 0 0 0))), m⟩) : G P E K c ⟨t, m⟩ :=
  G.sem fun ρ a w hs => ⟨ρ, _, hs.toPtr x h hb hx, k⟩
end
end Go.Sx
/- Top: sums over the levels of standing casks. -/
set_option linter.unusedVariables false
set_option linter.unusedSimpArgs false
set_option maxRecDepth 8000
set_option maxHeartbeats 2000000
namespace Go.Proofs.YtphipfmidfoflaaGreat
open Go.Sx Go.RowKit
def standing_stands (s0_0 : ByteArray) (x0_1 : Int) (l0_2 : List (Int × Int)) (x0_3 : Int) : Int := if ((cask_Check s0_0 x0_1 l0_2 x0_3) != (0 : Int)) = true then ((1 : Int)) else if (x0_1 != (2 : Int)) = true then ((10 : Int)) else ((0 : Int))
theorem standing_stands_any (s0_0 : ByteArray) (x0_1 : Int) (A0_2 : Option Addr) (c0_2 : Nat) (l0_2 : List (Int × Int)) (x0_3 : Int) (w : World) (hl_l0_2 : RdRow w A0_2 l0_2.length 2 (elP l0_2)) (hm_l0_2 : l0_2.length ≤ 100000) : Calls Tryz.prog 30 #[.agg #[.string s0_0, I x0_1, .slice A0_2 l0_2.length c0_2, I x0_3]] w fun e w' => e = .returned (I (standing_stands s0_0 x0_1 l0_2 x0_3)) ∧ Below w.heap.size w w' := by
  refine enterPlain tfine Tryz.func30 rfl 9 Tryz.ntmps30 [.agg [.k (.string s0_0), .k (I x0_1), .inp 1000 A0_2 l0_2.length c0_2, .k (I x0_3)]] [⟨1000, A0_2, 2, l0_2.length, elP l0_2⟩] rfl rfl ⟨hl_l0_2, trivial⟩ ⟨⟨trivial, trivial, .inl ⟨rfl, rfl, rfl⟩, trivial, trivial⟩, trivial⟩ ?_
  refine G.seqR tfine rfl ?_ ?_
  · first | trivial | (simp [AllP, condB]; done) | (simp only [AllP]; and_intros <;> first | trivial | decide | omega) | (simp [AllP, condB]; intros; and_intros <;> first | assumption | omega) | (simp [AllP, condB]; intros; simp_all; done) | (simp [AllP, condB]; intros; simp_all; omega) | (simp [AllP, condB]; omega)
  refine G.seq ?_
  refine G.seqC tfine rfl ?_ ?_
  · first | trivial | (simp [AllP, condB]; done) | (simp only [AllP]; and_intros <;> first | trivial | decide | omega) | (simp [AllP, condB]; intros; and_intros <;> first | assumption | omega) | (simp [AllP, condB]; intros; simp_all; done) | (simp [AllP, condB]; intros; simp_all; omega) | (simp [AllP, condB]; omega)
  refine GO.callPlain (v := I (cask_Check s0_0 x0_1 l0_2 x0_3))  rfl rfl rfl rfl (fun args w => Tryz.call24 args w) (fun ρ w hs hok => cask_Check_any _ _ A0_2 c0_2 l0_2 _ w (hs.row (cap := c0_2) rfl (hok _ List.mem_cons_self _ (List.mem_cons_of_mem _ (List.mem_cons_of_mem _ List.mem_cons_self)))) hm_l0_2) ?_
  refine GO.fin tfine rfl ?_ ?_
  · first | trivial | (simp [AllP, condB]; done) | (simp only [AllP]; and_intros <;> first | trivial | decide | omega) | (simp [AllP, condB]; intros; and_intros <;> first | assumption | omega) | (simp [AllP, condB]; intros; simp_all; done) | (simp [AllP, condB]; intros; simp_all; omega) | (simp [AllP, condB]; omega)
  refine G.cond (b := (cask_Check s0_0 x0_1 l0_2 x0_3) != (0 : Int)) rfl (fun h1 => ?_) (fun h1 => ?_)
  · refine G.seqR tfine rfl ?_ ?_
    · first | trivial | (simp [AllP, condB]; done) | (simp only [AllP]; and_intros <;> first | trivial | decide | omega) | (simp [AllP, condB]; intros; and_intros <;> first | assumption | omega) | (simp [AllP, condB]; intros; simp_all; done) | (simp [AllP, condB]; intros; simp_all; omega) | (simp [AllP, condB]; omega)
    refine G.ret (endK.ret rfl ?_)
    first | (rw [standing_stands, if_pos h1]; done) | (rw [standing_stands, if_pos h1]; rfl)
  refine G.skip ?_
  refine G.seq ?_
  refine G.seqR tfine rfl ?_ ?_
  · first | trivial | (simp [AllP, condB]; done) | (simp only [AllP]; and_intros <;> first | trivial | decide | omega) | (simp [AllP, condB]; intros; and_intros <;> first | assumption | omega) | (simp [AllP, condB]; intros; simp_all; done) | (simp [AllP, condB]; intros; simp_all; omega) | (simp [AllP, condB]; omega)
  refine G.cond (b := x0_1 != (2 : Int)) rfl (fun h2 => ?_) (fun h2 => ?_)
  · refine G.seqR tfine rfl ?_ ?_
    · first | trivial | (simp [AllP, condB]; done) | (simp only [AllP]; and_intros <;> first | trivial | decide | omega) | (simp [AllP, condB]; intros; and_intros <;> first | assumption | omega) | (simp [AllP, condB]; intros; simp_all; done) | (simp [AllP, condB]; intros; simp_all; omega) | (simp [AllP, condB]; omega)
    refine G.ret (endK.ret rfl ?_)
    first | (rw [standing_stands, if_neg (fne h1), if_pos h2]; done) | (rw [standing_stands, if_neg (fne h1), if_pos h2]; rfl)
  refine G.skip ?_
  refine G.seqR tfine rfl ?_ ?_
  · first | trivial | (simp [AllP, condB]; done) | (simp only [AllP]; and_intros <;> first | trivial | decide | omega) | (simp [AllP, condB]; intros; and_intros <;> first | assumption | omega) | (simp [AllP, condB]; intros; simp_all; done) | (simp [AllP, condB]; intros; simp_all; omega) | (simp [AllP, condB]; omega)
  refine G.ret (endK.ret rfl ?_)
  first | (rw [standing_stands, if_neg (fne h1), if_neg (fne h2)]; done) | (rw [standing_stands, if_neg (fne h1), if_neg (fne h2)]; rfl)
def standing_space (x0_0 : Int) (x0_1 : Int) : Int × Int := (IntKind.i64.wrap ((IntKind.i64.wrap (x0_0 * (333 : Int))).tdiv (318 : Int)), IntKind.i64.wrap ((IntKind.i64.wrap ((IntKind.i64.wrap (x0_1 * (355 : Int))) + (338 : Int))).tdiv (339 : Int)))
theorem standing_space_any (x0_0 : Int) (x0_1 : Int) (w : World) : Calls Tryz.prog 61 #[.agg #[I x0_0, I x0_1]] w fun e w' => e = .returned (.agg #[I ((standing_space x0_0 x0_1).1), I ((standing_space x0_0 x0_1).2)]) ∧ Below w.heap.size w w' := by
  refine enterPlain tfine Tryz.func61 rfl 13 Tryz.ntmps61 [.agg [.k (I x0_0), .k (I x0_1)]] [] rfl rfl trivial ⟨⟨trivial, trivial, trivial⟩, trivial⟩ ?_
  refine G.seqR tfine rfl ?_ ?_
  · first | trivial | (simp [AllP, condB]; done) | (simp only [AllP]; and_intros <;> first | trivial | decide | omega) | (simp [AllP, condB]; intros; and_intros <;> first | assumption | omega) | (simp [AllP, condB]; intros; simp_all; done) | (simp [AllP, condB]; intros; simp_all; omega) | (simp [AllP, condB]; omega)
  refine G.seqR tfine rfl ?_ ?_
  · first | trivial | (simp [AllP, condB]; done) | (simp only [AllP]; and_intros <;> first | trivial | decide | omega) | (simp [AllP, condB]; intros; and_intros <;> first | assumption | omega) | (simp [AllP, condB]; intros; simp_all; done) | (simp [AllP, condB]; intros; simp_all; omega) | (simp [AllP, condB]; omega)
  refine G.ret (endK.ret rfl ?_)
  first | (rw [standing_space]; done) | (rw [standing_space]; rfl)
theorem apB : ApT Tryz.prog 77 33 2 16 (.agg #[I 0, I 0]) := ⟨by kernel_rfl, by kernel_rfl, rfl, by decide⟩
theorem elP_snoc (l : List (Int × Int)) (x : Int × Int) (j : Nat) (hj : j < l.length + 1) : elN (elP l) l.length [I x.1, I x.2] j = elP (l ++ [x]) j := by
  by_cases e : j = l.length
  · subst e
    rw [elN_eq]
    simp [elP]
  · rw [elN_lt (by omega)]
    simp only [elP]
    rw [List.getD_eq_getElem?_getD, List.getD_eq_getElem?_getD, List.getElem?_append_left (by omega)]
def sumAdd (s : Int × Int) (h a b : Int) : Int × Int := (IntKind.i64.wrap (s.1 + IntKind.i64.wrap (IntKind.i64.wrap (IntKind.i64.wrap (3 * h) * a) * a)), IntKind.i64.wrap (s.2 + IntKind.i64.wrap (IntKind.i64.wrap (IntKind.i64.wrap (3 * h) * b) * b)))
def blA (A : Option Addr) : List Nat := match A with
  | none => []
  | some a => [a.block]
theorem blA_mem {A : Option Addr} {k : Nat} : k ∈ blA A ↔ gb A k := by
  cases A with
  | none => exact ⟨(fun h => by cases h), fun ⟨a, h, _⟩ => by cases h⟩
  | some a => exact ⟨fun h => ⟨a, rfl, by simpa [blA] using h⟩, fun ⟨b, h, e⟩ => by injection h with h; simp [blA, h, e]⟩
theorem sumAdd_any (h a b : Int) (s : Int × Int) (A : Option Addr) (c : Nat) (l : List (Int × Int)) (gs go : Nat) (w : World) (h1 : w.heap[gs]? = some (.cells #[I s.1, I s.2] 33 (0, 0))) (h2 : w.heap[go]? = some (.cells #[.slice A l.length c] 77 (0, 0))) (hne : gs ≠ go) (hg : GrowAt w A l.length c 33 2 (elP l)) (hA : ∀ k, gb A k → k ≠ gs ∧ k ≠ go) (hl : l.length ≤ 1000) :
    Calls Tryz.prog 94 #[I h, I a, I b, .pointer (some ⟨gs, 0, none⟩), .pointer (some ⟨go, 0, none⟩)] w fun e w' => ∃ u : Nat × Nat, e = .returned (.tuple #[]) ∧ Fr w (gs :: go :: blA A) w' ∧ w'.heap[gs]? = some (.cells #[I (sumAdd s h a b).1, I (sumAdd s h a b).2] 33 (0, 0)) ∧ w'.heap[go]? = some (.cells #[.slice (some ⟨u.1, 0, none⟩) (l.length + 1) u.2] 77 (0, 0)) ∧
      GrowAt w' (some ⟨u.1, 0, none⟩) (l.length + 1) u.2 33 2 (elP (l ++ [sumAdd s h a b])) ∧ (A = some ⟨u.1, 0, none⟩ ∨ w.heap.size ≤ u.1) ∧ u.1 < w'.heap.size := by
  have hltg := lt_of_heap h1
  have hlto := lt_of_heap h2
  refine enterSay (gs :: go :: blA A) [.c (.k (I h)), .c (.k (I a)), .c (.k (I b)), .c (.k (Pt gs)), .c (.k (Pt go))] [(1000, .var 33 [.k (I s.1), .k (I s.2)]), (1001, .var 77 [.k (.slice A l.length c)]), (801, .say (gb A) (fun w => GrowAt w A l.length c 33 2 (elP l)))] Tryz.func94 rfl 32 Tryz.ntmps94 rfl rfl ⟨trivial, trivial, trivial, trivial, trivial, trivial⟩
    ⟨⟨.head _, [_, _], ⟨rfl, rfl, trivial⟩, h1⟩, ⟨fun _ => hne, fun _ => Ne.symm hne, fun _ h => (hA _ h).1 rfl, fun h => h.elim, trivial⟩, ⟨.tail _ (.head _), [_], ⟨rfl, trivial⟩, h2⟩, ⟨fun _ h => (hA _ h).2 rfl, fun h => h.elim, trivial⟩, ⟨hg, hg.lt, GrowAt.steady⟩, trivial, trivial⟩ ?_
  refine G.toPtr 3 1000 rfl (.head _) rfl ?_
  refine G.toPtr 4 1001 rfl (.tail _ (.head _)) rfl ?_
  refine G.seqR tfine rfl trivial ?_
  refine G.regC tfine rfl trivial ?_
  refine GO.appendSay 801 [I (sumAdd s h a b).1, I (sumAdd s h a b).2] apB rfl rfl rfl rfl rfl rfl (fun k hk => .inr ?_) (by repeat (first | exact OwnX.lk ⟨.inr trivial, .inr trivial, .inl rfl, trivial⟩ | refine OwnX.up ?_ _ trivial)) rfl rfl rfl (fun u hu => ?_) (fun k hk => rfl) (by unfold maxLen; omega) (by omega) fun g c' hc' hgg => ?_
  · rw [borT_snd]
    exact List.mem_cons_of_mem _ (List.mem_cons_of_mem _ (blA_mem.2 hk))
  · simp at hu
    rcases hu with rfl | rfl <;> rfl
  refine GO.fin tfine rfl trivial ?_
  refine ⟨.inr rfl, fun ρ a' w' hs => ⟨_, results_run tfine hs rfl, (g, c'), rfl, ?_, ?_, ?_, ?_, hgg, ?_⟩⟩
  · have := hs.mem.fr
    rw [borT_snd] at this
    exact this
  · have := (hs.mem.ok 1000 _ rfl).2.2.1
    rw [(hs.mem.bo (1000, gs) (.head _)).1] at this
    exact this
  · have := (hs.mem.ok 1001 _ rfl).2.2.1
    rw [(hs.mem.bo (1001, go) (.tail _ (.head _))).1] at this
    exact this
  · have := (hs.mem.ok 801 _ rfl).1
    rcases this with ⟨h0, _⟩ | ⟨b', e, ho, hn⟩
    · omega
    · exact .inr ⟨b', e, ho.congr fun i hi => elP_snoc l _ i hi, hn⟩
  · exact (hs.mem.ok 801 _ rfl).2.1 g ⟨_, rfl, rfl⟩
/-- the sum up to a level -/
def stS (l : List (Int × Int)) (lv : List Int) : Nat → Int × Int
  | 0 => (0, 0)
  | k + 1 => sumAdd (stS l lv k) (slA l lv k) (slB l lv k) (slC l lv k)
def sumL (l : List (Int × Int)) (lv : List Int) (k : Nat) : List (Int × Int) := (List.range k).map fun i => stS l lv (i + 1)
theorem sumL_len (l : List (Int × Int)) (lv : List Int) (k : Nat) : (sumL l lv k).length = k := by simp [sumL]
theorem sumL_succ (l : List (Int × Int)) (lv : List Int) (k : Nat) : sumL l lv (k + 1) = sumL l lv k ++ [stS l lv (k + 1)] := by simp [sumL, List.range_succ]
/-- What is told of the list of sums. -/
def RU (w0 k : Nat) (el : Nat → List Value) (u : Cho) (w : World) : Prop := ∃ A c, u.1 = .slice A k c ∧ (∀ j, u.2 j ↔ gb A j) ∧ (∀ j, u.2 j → w0 ≤ j) ∧ GrowAt w A k c 33 2 el
theorem RU.steady {w0 k : Nat} {el : Nat → List Value} {u : Cho} : Steady u.2 (RU w0 k el u) := by
  rintro w1 w2 h1 h2 ⟨A, c, e1, e2, e3, e4⟩
  exact ⟨A, c, e1, e2, e3, GrowAt.steady w1 w2 (fun k hk => h1 k ((e2 k).2 hk)) h2 e4⟩
def turnN (l : List (Int × Int)) (lv : List Int) (k : Nat) (u : Cho) : List Tn := [⟨6, 33, [I (stS l lv (k + 1)).1, I (stS l lv (k + 1)).2]⟩, ⟨5, 77, [u.1]⟩]
def SumAns (w w' : World) (o : List (Int × Int)) (e : Ending) : Prop := ∃ u : Option Addr × Nat, e = .returned (.slice u.1 o.length u.2) ∧ Below w.heap.size w w' ∧ RdRow w' u.1 o.length 2 (elP o) ∧ (∀ k, sb (.slice u.1 o.length u.2) k → w.heap.size ≤ k ∧ k < w'.heap.size) ∧ Steady (sb (.slice u.1 o.length u.2)) (fun w => RdRow w u.1 o.length 2 (elP o))
theorem sums_any (s : ByteArray) (pos : Int) (A : Option Addr) (c : Nat) (l : List (Int × Int)) (decl : Int) (B : Option Addr) (d : Nat) (lv : List Int) (w : World) (h3 : RdRow w A l.length 2 (elP l)) (h4 : RdRow w B lv.length 1 (elI lv)) (hn : l.length ≤ 100000) (hl1 : 1 ≤ lv.length) (hl2 : lv.length ≤ 1000) :
    Calls Tryz.prog 60 #[.agg #[.string s, I pos, .slice A l.length c, I decl], .slice B lv.length d] w fun e w' => SumAns w w' (sumL l lv (lv.length - 1)) e := by
  have hltA : ∀ k, sb (.slice A l.length c) k → k < w.heap.size := sb_lt h3
  have hltB : ∀ k, sb (.slice B lv.length d) k → k < w.heap.size := sb_lt h4
  refine enterSay [] [.agg [.k (.string s), .k (I pos), .k (.slice A l.length c), .k (I decl)], .c (.k (.slice B lv.length d))]
    [(801, .say (sb (.slice A l.length c)) (fun w => RdRow w A l.length 2 (elP l))), (802, .say (sb (.slice B lv.length d)) (fun w => RdRow w B lv.length 1 (elI lv)))] Tryz.func60 rfl 64 Tryz.ntmps60 rfl rfl ⟨⟨trivial, trivial, trivial, trivial, trivial⟩, trivial, trivial⟩
    ⟨⟨h3, hltA, steady_row⟩, ⟨fun h => h.elim, fun h => h.elim, trivial⟩, ⟨h4, hltB, steady_row⟩, trivial, trivial⟩ ?_
  refine G.openSay 802 806 1 rfl (fun _ h => h) (fun _ h => h) rfl rfl rfl ?_
  refine G.seqR tfine rfl trivial ?_
  refine G.seqR tfine rfl trivial ?_
  refine G.seqR tfine rfl trivial ?_
  refine G.seqR tfine rfl trivial ?_
  refine G.seq (G.seqR tfine rfl trivial ?_)
  refine G.sem fun ρ a w1 hs => ⟨ρ, _, hs.tell (y := 701) (fun _ => False) (RU w.heap.size 0 (elP (sumL l lv 0)) (.slice none 0 0, fun _ => False)) ⟨none, 0, rfl, fun j => ⟨fun h => h.elim, fun ⟨a, h, _⟩ => by cases h⟩, fun j h => h.elim, .inl ⟨rfl, rfl, rfl⟩⟩ (fun k hk => hk.elim) (RU.steady (u := (.slice none 0 0, fun _ => False))) (fun b hb => by cases hb) (fun z c _ _ hk => hk), ?_⟩
  refine G.block (G.loop (fun z : Nat × Cho => St.of [(1, .v (.c (.inp 806 B lv.length d))), (2, .v (.c (.ptr 2 0 0 0))), (5, .v (.c (.ptr 5 0 0 0))), (7, .v (.c (.fn 94 [.own 6 0, .own 5 0]))), (8, .v (.c (.k (I (z.1 + 1 : Nat)))))]
      [(801, .say (sb (.slice A l.length c)) (fun w => RdRow w A l.length 2 (elP l))), (802, .say (sb (.slice B lv.length d)) (fun w => RdRow w B lv.length 1 (elI lv))), (806, .ro 1 lv.length (elI lv)), (2, .var 24 [.k (.string s), .k (I pos), .k (.slice A l.length c), .k (I decl)]), (6, .var 33 [.k (I (stS l lv z.1).1), .k (I (stS l lv z.1).2)]), (5, .var 77 [.k z.2.1]), (701, .say z.2.2 (RU w.heap.size z.1 (elP (sumL l lv z.1)) z.2))])
    (fun z => z.1 + 1 ≤ lv.length) (fun z => lv.length - z.1) (0, (.slice none 0 0, fun _ => False)) hl1
    (St.le_of rfl ⟨⟨_, rfl, Blk.le_refl _⟩, ⟨_, rfl, Blk.le_refl _⟩, ⟨_, rfl, Blk.le_refl _⟩, ⟨_, rfl, Blk.le_refl _⟩, ⟨_, rfl, Blk.le_refl _⟩, ⟨_, rfl, Blk.le_refl _⟩, ⟨_, rfl, Blk.le_refl _⟩, trivial⟩ ⟨rfl, rfl, rfl, rfl, rfl, trivial⟩) ?_)
  rintro ⟨k, u⟩ hk
  simp only at hk
  refine G.seq ?_
  refine G.seqR tfine rfl trivial ?_
  refine G.cond (b := decide (((k + 1 : Nat) : Int) < (lv.length : Int))) rfl (fun h5 => ?_) (fun h5 => ?_)
  rotate_left
  · have h5 := of_decide_eq_false h5
    have hkl : k = lv.length - 1 := by omega
    subst hkl
    refine G.exit ?_
    refine G.seqR tfine rfl trivial ?_
    refine G.ret ⟨.inl rfl, fun ρ a w' hs => ?_⟩
    obtain ⟨⟨A2, c2, e1, e2, e3, e4⟩, f2, f3⟩ := hs.mem.ok 701 _ rfl
    refine ⟨u.1, results_run tfine hs ?_, (A2, c2), ?_, hs.mem.fr.toBelow, ?_, ?_, ?_⟩
    · obtain ⟨u1, u2⟩ := u
      simp only at e1
      subst e1
      rfl
    · rw [sumL_len, e1]
    · rw [sumL_len]; exact e4.rd
    · rw [sumL_len]
      rintro j ⟨h0, a, ha, rfl⟩
      have := (e2 a.block).2 ⟨a, ha, rfl⟩
      exact ⟨e3 _ this, f2 _ this⟩
    · exact steady_row
  have h5 := of_decide_eq_true h5
  have hlt : k + 1 < lv.length := by omega
  have hw1 : IntKind.i64.wrap (((k + 1 : Nat) : Int) - 1) = (k : Int) := by rw [show (((k + 1 : Nat) : Int) - 1) = (k : Int) by omega]; exact IntWalk.i64_in _ (by omega)
  obtain ⟨P1, hP1⟩ : ∃ P1, P1 = lv.getD (IntKind.i64.wrap (((k + 1 : Nat) : Int) - 1)).toNat 0 := ⟨_, rfl⟩
  obtain ⟨P2, hP2⟩ : ∃ P2, P2 = lv.getD (((k + 1 : Nat) : Int)).toNat 0 := ⟨_, rfl⟩
  have q1 : P1 = lv.getD k 0 := by rw [hP1, hw1, Int.toNat_natCast]
  have q2 : P2 = lv.getD (k + 1) 0 := by rw [hP2, Int.toNat_natCast]
  refine G.skip ?_
  refine G.seq (G.block ?_)
  refine G.seqDraw hmix [0, 1, 0, 0, 8, 28, 60, 127, 255, 511, 511, 0, 3071, 8191] [(12, 9)] rfl rfl rfl ?_
  refine GD.more tfine 0 rfl rfl ?_ ?_
  · simp only [AllP, hw1]
    and_intros <;> first | trivial | omega
  refine GD.call (v := .tuple #[.agg #[I (profile_At l (lv.getD (IntKind.i64.wrap (((k + 1 : Nat) : Int) - 1)).toNat 0)).1, I (profile_At l (lv.getD (IntKind.i64.wrap (((k + 1 : Nat) : Int) - 1)).toNat 0)).2.1], I (profile_At l (lv.getD (IntKind.i64.wrap (((k + 1 : Nat) : Int) - 1)).toNat 0)).2.2]) 7 rfl rfl rfl rfl rfl (fun args w => Tryz.call95 args w) (fun m hle ρ w hs hok => profile_At_any A c l _ w (hs.ok 801 _ (LeM.at hle rfl)).1 hn) ?_
  refine GD.fin tfine 8 rfl rfl trivial ?_
  refine G.seqDraw hmix [0, 1, 0, 0, 12, 28, 63, 127, 255, 255, 0, 1535, 4095] [(11, 11)] rfl rfl rfl ?_
  refine GD.more tfine 0 rfl rfl ?_ ?_
  · simp only [AllP]
    and_intros <;> first | trivial | omega
  refine GD.call (v := .tuple #[.agg #[I (profile_At l (lv.getD (((k + 1 : Nat) : Int)).toNat 0)).1, I (profile_At l (lv.getD (((k + 1 : Nat) : Int)).toNat 0)).2.1], I (profile_At l (lv.getD (((k + 1 : Nat) : Int)).toNat 0)).2.2]) 6 rfl rfl rfl rfl rfl (fun args w => Tryz.call95 args w) (fun m hle ρ w hs hok => profile_At_any A c l _ w (hs.ok 801 _ (LeM.at hle rfl)).1 hn) ?_
  refine GD.fin tfine 7 rfl rfl trivial ?_
  refine G.weaken (st' := St.of [(1, .v (.c (.inp 806 B lv.length d))), (2, .v (.c (.ptr 2 0 0 0))), (5, .v (.c (.ptr 5 0 0 0))), (7, .v (.c (.fn 94 [.own 6 0, .own 5 0]))), (8, .v (.c (.k (I (k + 1 : Nat))))), (9, .v (.c (.ptr 9 0 0 0))), (11, .v (.c (.ptr 11 0 0 0)))]
      [(801, .say (sb (.slice A l.length c)) (fun w => RdRow w A l.length 2 (elP l))), (802, .say (sb (.slice B lv.length d)) (fun w => RdRow w B lv.length 1 (elI lv))), (806, .ro 1 lv.length (elI lv)), (2, .var 24 [.k (.string s), .k (I pos), .k (.slice A l.length c), .k (I decl)]), (6, .var 33 [.k (I (stS l lv k).1), .k (I (stS l lv k).2)]), (5, .var 77 [.k u.1]), (701, .say u.2 (RU w.heap.size k (elP (sumL l lv k)) u)),
       (9, .var 33 [.k (I (profile_At l P1).1), .k (I (profile_At l P1).2.1)]), (11, .var 33 [.k (I (profile_At l P2).1), .k (I (profile_At l P2).2.1)])])
    (St.le_of rfl ⟨⟨_, rfl, Blk.le_refl _⟩, ⟨_, rfl, Blk.le_refl _⟩, ⟨_, rfl, Blk.le_refl _⟩, ⟨_, rfl, Blk.le_refl _⟩, ⟨_, rfl, Blk.le_refl _⟩, ⟨_, rfl, Blk.le_refl _⟩, ⟨_, rfl, Blk.le_refl _⟩, ⟨_, by rw [hP1]; rfl, Blk.le_refl _⟩, ⟨_, by rw [hP2]; rfl, Blk.le_refl _⟩, trivial⟩ ⟨rfl, rfl, rfl, rfl, rfl, rfl, rfl, trivial⟩) ?_
  obtain ⟨ml0, hml0⟩ : ∃ ml0 : List (Nat × Blk), ml0 = [(801, .say (sb (.slice A l.length c)) (fun w => RdRow w A l.length 2 (elP l))), (802, .say (sb (.slice B lv.length d)) (fun w => RdRow w B lv.length 1 (elI lv))), (806, .ro 1 lv.length (elI lv)), (2, .var 24 [.k (.string s), .k (I pos), .k (.slice A l.length c), .k (I decl)]), (6, .var 33 [.k (I (stS l lv k).1), .k (I (stS l lv k).2)]), (5, .var 77 [.k u.1]), (701, .say u.2 (RU w.heap.size k (elP (sumL l lv k)) u)), (9, .var 33 [.k (I (profile_At l P1).1), .k (I (profile_At l P1).2.1)]), (11, .var 33 [.k (I (profile_At l P2).1), .k (I (profile_At l P2).2.1)])] := ⟨_, rfl⟩
  apply G.drawC (ch := fun j => match j with | 21 => some (turnF (turnN l lv k) 701 (RU w.heap.size (k + 1) (elP (sumL l lv (k + 1)))) (.tuple #[]) [6, 5, 701]) | _ => none) (cls := [0, 0, 0, 6, 14, 0, 0, 64, 224, 480, 1022, 0, 2048, 0, 8192, 30720, 0, 65536, 0, 262144, 983040, 2097151]) (X := [(21, 6), (21, 5), (21, 701)]) hmix rfl rfl rfl
  · intro ch
    refine GC.more tfine 0 rfl rfl rfl ?_ ?_
    · simp only [AllP, hw1]
      and_intros <;> first | trivial | omega
    refine GC.choice 21 rfl _ rfl (StepsC.callTurnX (turnN l lv k) 701 (RU w.heap.size (k + 1) (elP (sumL l lv (k + 1)))) [6, 5, 701] rfl rfl rfl rfl (fun args w => Tryz.call94 args w) (fun i b hb => ?_) rfl (fun w2 hw2 j hj => ?_) (fun ρ a w2 hs2 x b hx hb hlv => ?_) (fun ρ w2 hs hok hok2 => ?_)) rfl (fun v x hx => ?_) rfl ?_
    · simp only [turnN, List.mem_cons, List.not_mem_nil, or_false] at hb
      rcases hb with rfl | rfl <;> exact ⟨_, rfl⟩
    · obtain ⟨A2, c2, e1, e2, e3, e4⟩ := hw2
      exact e3 j hj
    · have hq : lkM ml0 x = some b := by
        refine canF_all (Q := fun y b => lkM ml0 y = some b) (i := 21) ?_ ?_ ?_ x b hb
        · rfl
        · rw [hml0]; exact fun y b h => h
        · simp [allRc, allMs]
      have hS : ∀ j, u.2 j → w.heap.size ≤ j := by
        obtain ⟨⟨A2, c2, e1, e2, e3, e4⟩, _⟩ := hs2.mem.ok 701 (.say u.2 (RU w.heap.size k (elP (sumL l lv k)) u)) rfl
        exact e3
      rcases lkM_mem (ml := ml0) (j := x) with h6 | ⟨q, hq1, rfl, h6⟩
      · rw [h6] at hq; cases hq
      rw [h6] at hq
      injection hq with hq
      rw [hml0] at hq1
      simp only [List.mem_cons, List.not_mem_nil, or_false] at hq1
      rcases hq1 with rfl | rfl | rfl | rfl | rfl | rfl | rfl | rfl | rfl
      · subst hq
        exact .inr fun j h1 h2 => by have := hltA j h1; have := hS j h2; omega
      · subst hq
        exact .inr fun j h1 h2 => by have := hltB j h1; have := hS j h2; omega
      · subst hq
        refine .inr fun j h1 h2 => ?_
        have h8 := hS j h2
        have h9 := (hs2.tm 1)
        have h9 : TV.rep ρ _ (.v (.c (.inp 806 B lv.length d))) _ := h9
        have h10 := h9.1.2 (show 0 < lv.length by omega)
        have h11 := hltB (ρ 806).1 ⟨by omega, _, h10, rfl⟩
        have h1 : j = (ρ 806).1 := h1
        omega
      · exact .inl (hq ▸ trivial)
      · exact .inl (hq ▸ trivial)
      · exact .inl (hq ▸ trivial)
      · exact absurd rfl hx
      · exact .inl (hq ▸ trivial)
      · exact .inl (hq ▸ trivial)
    · have h6 := hs.ok 6 (.var 33 [.k (I (stS l lv k).1), .k (I (stS l lv k).2)]) rfl
      have h5' := hs.ok 5 (.var 77 [.k u.1]) rfl
      have hne := hs.ne 6 5 (.var 33 [.k (I (stS l lv k).1), .k (I (stS l lv k).2)]) (.var 77 [.k u.1]) rfl rfl trivial trivial (by decide)
      have hne : (ρ 6).1 ≠ (ρ 5).1 := hne
      have hn6 := hs.ne 6 701 (.var 33 [.k (I (stS l lv k).1), .k (I (stS l lv k).2)]) (.say u.2 (RU w.heap.size k (elP (sumL l lv k)) u)) rfl rfl trivial trivial (by decide)
      have hn5 := hs.ne 5 701 (.var 77 [.k u.1]) (.say u.2 (RU w.heap.size k (elP (sumL l lv k)) u)) rfl rfl trivial trivial (by decide)
      obtain ⟨⟨A2, c2, e1, e2, e3, e4⟩, f2, f3⟩ := hs.ok 701 (.say u.2 (RU w.heap.size k (elP (sumL l lv k)) u)) rfl
      have hsl := sumL_len l lv k
      have z6 := h6.2.2.1
      have z5 := h5'.2.2.1
      rw [e1] at z5
      have z6 : w2.heap[(ρ 6).1]? = some (.cells #[I (stS l lv k).1, I (stS l lv k).2] 33 (0, 0)) := z6
      have z5 : w2.heap[(ρ 5).1]? = some (.cells #[.slice A2 (sumL l lv k).length c2] 77 (0, 0)) := by rw [hsl]; exact z5
      have := sumAdd_any (slA l lv k) (slB l lv k) (slC l lv k) (stS l lv k) A2 c2 (sumL l lv k) (ρ 6).1 (ρ 5).1 w2 z6 z5 hne (by rw [hsl]; exact e4)
        (fun j hj => ⟨fun e => hn6 (by rw [← e]; exact (e2 j).2 hj), fun e => hn5 (by rw [← e]; exact (e2 j).2 hj)⟩) (by omega)
      have e : ([AV.c (.k (I (IntKind.i64.wrap (lv.getD (((k + 1 : Nat) : Int)).toNat 0 - lv.getD (IntKind.i64.wrap (((k + 1 : Nat) : Int) - 1)).toNat 0)))), .c (.k (I (if (profile_At l P2).1 < (profile_At l P1).1 then (profile_At l P2).1 else (profile_At l P1).1))), .c (.k (I (if (profile_At l P2).2.1 > (profile_At l P1).2.1 then (profile_At l P2).2.1 else (profile_At l P1).2.1)))].map (AV.conc ρ) ++ [Cap.own 6 0, Cap.own 5 0].map (Cap.conc ρ)).toArray =
          #[I (slA l lv k), I (slB l lv k), I (slC l lv k), .pointer (some ⟨(ρ 6).1, 0, none⟩), .pointer (some ⟨(ρ 5).1, 0, none⟩)] := by
        rw [q1, q2, hw1, Int.toNat_natCast, Int.toNat_natCast]
        simp [AV.conc, AC.conc, Cap.conc, h6.1, h5'.1, slA, slB, slC]
      refine e ▸ this.mono ?_
      rintro e w' ⟨⟨g, c'⟩, rfl, hf, r1, r2, r3, r4, r5⟩
      simp only at r2 r3 r4 r5
      rw [hsl] at r2 r3
      refine ⟨(.slice (some ⟨g, 0, none⟩) (k + 1) c', gb (some ⟨g, 0, none⟩)), _, rfl, hf, fun q hq => ?_, fun b hb => ?_, ⟨_, _, rfl, fun j => Iff.rfl, fun j hj => ?_, ?_⟩, fun j hj => ?_, RU.steady⟩
      · rcases List.mem_cons.1 hq with rfl | hq
        · exact .inl ⟨_, .head _, rfl⟩
        rcases List.mem_cons.1 hq with rfl | hq
        · exact .inl ⟨_, .tail _ (.head _), rfl⟩
        · exact .inr ((e2 q).2 (blA_mem.1 hq))
      · simp only [turnN, List.mem_cons, List.not_mem_nil, or_false] at hb
        rcases hb with rfl | rfl
        · exact r1
        · exact r2
      · obtain ⟨a, ha, rfl⟩ := hj
        injection ha with ha
        rw [← ha]
        rcases r4 with h | h
        · exact e3 g ((e2 g).2 ⟨_, h, rfl⟩)
        · exact Nat.le_trans hs.fr.size h
      · rw [sumL_succ]; exact r3
      · obtain ⟨a, ha, rfl⟩ := hj
        injection ha with ha
        rw [← ha]
        refine ⟨r4.elim (fun h => .inr ((e2 g).2 ⟨_, h, rfl⟩)) .inl, r5⟩
    · simp only [turnF, turnN, List.map_cons, List.map_nil, List.cons_append, List.nil_append, mget] at hx
      cases hb1 : Nat.beq x 6 with
      | true => rw [Nat.eq_of_beq_eq_true hb1]; exact .head _
      | false =>
        cases hb2 : Nat.beq x 5 with
        | true => rw [Nat.eq_of_beq_eq_true hb2]; exact .tail _ (.head _)
        | false =>
          cases hb3 : Nat.beq x 701 with
          | true => rw [Nat.eq_of_beq_eq_true hb3]; exact .tail _ (.tail _ (.head _))
          | false => rw [hb1, hb2, hb3] at hx; cases hx
    refine GC.nil ?_
    refine G.reg tfine rfl trivial ?_
    refine ⟨(k + 1, ch 21), hlt, (by show lv.length - (k + 1) < lv.length - k; omega), St.le_of rfl ⟨⟨_, rfl, Blk.le_refl _⟩, ⟨_, rfl, Blk.le_refl _⟩, ⟨_, rfl, Blk.le_refl _⟩, ⟨_, rfl, Blk.le_refl _⟩, ⟨_, rfl, Blk.le_refl _⟩, ⟨_, rfl, Blk.le_refl _⟩, ⟨_, rfl, Blk.le_refl _⟩, trivial⟩ ⟨rfl, rfl, rfl, rfl, ?_, trivial⟩⟩
    simp [up, I]
    rw [IntWalk.i64_in _ (by omega)]
  ·
    intro c c' j hj h
    have hj : j < 22 := hj
    match j, hj, h with
    | 0, _, h => first | rfl | (show some _ = some _; done)
    | 1, _, h => first | rfl | (show some _ = some _; done)
    | 2, _, h => first | rfl | (show some _ = some _; done)
    | 3, _, h => first | rfl | (show some _ = some _; done)
    | 4, _, h => first | rfl | (show some _ = some _; done)
    | 5, _, h => first | rfl | (show some _ = some _; done)
    | 6, _, h => first | rfl | (show some _ = some _; done)
    | 7, _, h => first | rfl | (show some _ = some _; done)
    | 8, _, h => first | rfl | (show some _ = some _; done)
    | 9, _, h => first | rfl | (show some _ = some _; done)
    | 10, _, h => first | rfl | (show some _ = some _; done)
    | 11, _, h => first | rfl | (show some _ = some _; done)
    | 12, _, h => first | rfl | (show some _ = some _; done)
    | 13, _, h => first | rfl | (show some _ = some _; done)
    | 14, _, h => first | rfl | (show some _ = some _; done)
    | 15, _, h => first | rfl | (show some _ = some _; done)
    | 16, _, h => first | rfl | (show some _ = some _; done)
    | 17, _, h => first | rfl | (show some _ = some _; done)
    | 18, _, h => first | rfl | (show some _ = some _; done)
    | 19, _, h => first | rfl | (show some _ = some _; done)
    | 20, _, h => first | rfl | (show some _ = some _; done)
    | 21, _, h => first | rfl | (show some _ = some _; (try rw [h 21 (.inl rfl)]); (try rw [h 21 (.inr ⟨rfl, rfl⟩)]); done)
    | q + 22, hj, h => exact absurd hj (by omega)
end Go.Proofs.YtphipfmidfoflaaGreat
/- Top: the levels of standing casks. -/
set_option linter.unusedVariables false
set_option linter.unusedSimpArgs false
set_option maxRecDepth 8000
set_option maxHeartbeats 2000000
namespace Go.Proofs.YtphipfmidfoflaaGreat
open Go.Sx Go.RowKit
theorem indexI_any (A : Option Addr) (c : Nat) (l : List Int) (x : Int) (w : World) (hl : RdRow w A l.length 1 (elI l)) (hm : l.length ≤ 100000) :
    Calls Tryz.prog 100 #[.slice A l.length c, I x] w fun e w' => e = .returned (I (firstI (fun k => x == l.getD k 0) 0 l.length)) ∧ Below w.heap.size w w' := by
  refine enterPlain tfine Tryz.func100 rfl 19 Tryz.ntmps100 [.c (.inp 1000 A l.length c), .c (.k (I x))] [⟨1000, A, 1, l.length, elI l⟩] rfl rfl ⟨hl, trivial⟩ ⟨.inl ⟨rfl, rfl, rfl⟩, trivial, trivial⟩ ?_
  refine G.seqR tfine rfl trivial ?_
  refine G.seq (G.seqR tfine rfl trivial ?_)
  refine G.block (G.loop (fun k : Nat => St.of [(0, .v (.c (.inp 1000 A l.length c))), (1, .v (.c (.k (I x)))), (7, .v (.c (.k (I l.length)))), (8, .v (.c (.k (I k))))] [(1000, .ro 1 l.length (elI l))])
    (fun k => k ≤ l.length ∧ firstI (fun k => x == l.getD k 0) 0 l.length = firstI (fun k => x == l.getD k 0) k (l.length - k)) (fun k => l.length - k) 0 ⟨by omega, by simp⟩ (St.le_of rfl ⟨⟨_, rfl, Blk.le_refl _⟩, trivial⟩ ⟨rfl, rfl, rfl, rfl, trivial⟩) ?_)
  rintro k ⟨hk, hfi⟩
  refine G.seqR tfine rfl trivial ?_
  refine G.seq (G.cond rfl (fun h => ?_) (fun h => ?_))
  rotate_left
  · have h := of_decide_eq_false h
    have : k = l.length := by omega
    subst this
    refine G.exit ?_
    refine G.seqR tfine rfl trivial ?_
    refine G.ret (endK.ret rfl ?_)
    rw [hfi]
    simp [firstI]
  have h := of_decide_eq_true h
  have hlt : k < l.length := by omega
  refine G.skip ?_
  refine G.seq (G.block ?_)
  refine G.seqR tfine rfl trivial ?_
  refine G.seqR tfine rfl ?_ ?_
  · first | trivial | (simp [AllP, condB]; done) | (simp only [AllP]; and_intros <;> first | trivial | decide | omega) | (simp [AllP, condB]; intros; and_intros <;> first | assumption | omega) | (simp [AllP, condB]; intros; simp_all; done)
  have hs : l.length - k = (l.length - (k + 1)) + 1 := by omega
  rw [hs, firstI] at hfi
  refine G.cond (b := x == l.getD k 0) rfl (fun h2 => ?_) (fun h2 => ?_)
  · refine G.seqR tfine rfl trivial ?_
    refine G.ret (endK.ret rfl ?_)
    rw [hfi, if_pos h2]
  · refine G.skip ?_
    refine G.reg tfine rfl trivial ?_
    rw [IntWalk.i64_in _ (by omega)]
    rw [if_neg (fne h2)] at hfi
    exact ⟨k + 1, ⟨by omega, hfi⟩, (by show l.length - (k + 1) < l.length - k; omega), St.le_of rfl ⟨⟨_, rfl, Blk.le_refl _⟩, trivial⟩ ⟨rfl, rfl, rfl, by simp [up, I], trivial⟩⟩
def hasI (l : List Int) (x : Int) : Bool := l.any fun v => x == v
theorem containsI_any (A : Option Addr) (c : Nat) (l : List Int) (x : Int) (w : World) (hl : RdRow w A l.length 1 (elI l)) (hm : l.length ≤ 100000) :
    Calls Tryz.prog 68 #[.slice A l.length c, I x] w fun e w' => e = .returned (.bool (hasI l x)) ∧ Below w.heap.size w w' := by
  refine enterPlain tfine Tryz.func68 rfl 9 Tryz.ntmps68 [.c (.inp 1000 A l.length c), .c (.k (I x))] [⟨1000, A, 1, l.length, elI l⟩] rfl rfl ⟨hl, trivial⟩ ⟨.inl ⟨rfl, rfl, rfl⟩, trivial, trivial⟩ ?_
  refine G.seqR tfine rfl trivial ?_
  refine G.seqC tfine rfl trivial ?_
  refine GO.callPlain rfl rfl rfl rfl (fun args w => Tryz.call100 args w) (fun ρ w hs hok => indexI_any A c l x w (hs.row rfl (hok _ List.mem_cons_self)) hm) ?_
  refine GO.fin tfine rfl trivial ?_
  refine G.ret (endK.ret rfl ?_)
  show Value.bool (decide (firstI (fun k => x == l.getD k 0) 0 l.length ≥ 0)) = _
  have := any_getDg (fun v => x == v) l 0
  rw [firstI_any, hasI, ← this]
/-! ### Check -/
def stOut (lv : List Int) (e : Int) : Bool := (List.range lv.length).any fun i => decide (lv.getD i 0 < 0) || decide (lv.getD i 0 > e)
def stDown (lv : List Int) : Bool := (List.range (lv.length - 1)).any fun i => decide (lv.getD i 0 ≥ lv.getD (i + 1) 0)
def stMiss (l : List (Int × Int)) (lv : List Int) : Bool := (List.range l.length).any fun i => (decide ((pt l i).1 > lv.getD 0 0) && decide ((pt l i).1 < lastI lv)) && !(hasI lv (pt l i).1)
def stCheck (s : ByteArray) (pos : Int) (l : List (Int × Int)) (decl : Int) (lv : List Int) : Int := if (standing_stands s pos l decl != 0) = true then standing_stands s pos l decl else if decide ((lv.length : Int) < 2) = true then 9 else if decide ((lv.length : Int) > 128) = true then 8 else if stOut lv (lenP l) = true then 2 else if stDown lv = true then 5 else if stMiss l lv = true then 7 else 0
theorem stands_prof {s : ByteArray} {pos decl : Int} {l : List (Int × Int)} (h : standing_stands s pos l decl = 0) : cask_Check s pos l decl = 0 ∧ pos = 2 ∧ profE l = 0 := by
  unfold standing_stands at h
  split at h
  · cases h
  rename_i h1
  split at h
  · cases h
  rename_i h2
  have h1 : cask_Check s pos l decl = 0 := by simpa using h1
  exact ⟨h1, by simpa using h2, caskE_prof h1⟩
theorem stCheck_any (s : ByteArray) (pos : Int) (A : Option Addr) (c : Nat) (l : List (Int × Int)) (decl : Int) (B : Option Addr) (d : Nat) (lv : List Int) (w : World) (h3 : RdRow w A l.length 2 (elP l)) (h4 : RdRow w B lv.length 1 (elI lv)) (hn : l.length ≤ 100000) (hl2 : lv.length ≤ 100000) :
    Calls Tryz.prog 59 #[.agg #[.string s, I pos, .slice A l.length c, I decl], .slice B lv.length d] w fun e w' => e = .returned (I (stCheck s pos l decl lv)) ∧ Below w.heap.size w w' := by
  refine enterPlain tfine Tryz.func59 rfl 92 Tryz.ntmps59 [.agg [.k (.string s), .k (I pos), .inp 1000 A l.length c, .k (I decl)], .c (.inp 1001 B lv.length d)] [⟨1000, A, 2, l.length, elP l⟩, ⟨1001, B, 1, lv.length, elI lv⟩] rfl rfl ⟨h3, h4, trivial⟩ ⟨⟨trivial, trivial, .inl ⟨rfl, rfl, rfl⟩, trivial, trivial⟩, .inr ⟨(by decide : (1000 : Nat) ≠ 1001), .inl ⟨rfl, rfl, rfl⟩⟩, trivial⟩ ?_
  refine G.seqR tfine rfl trivial ?_
  refine G.seq ?_
  refine G.seqC tfine rfl trivial ?_
  refine GO.callPlain (v := I (standing_stands s pos l decl)) rfl rfl rfl rfl (fun args w => Tryz.call30 args w) (fun ρ w hs hok => standing_stands_any s pos A c l decl w (hs.row (cap := c) rfl (hok _ List.mem_cons_self _ (.tail _ (.tail _ (.head _))))) hn) ?_
  refine GO.fin tfine rfl trivial ?_
  refine G.seqR tfine rfl trivial ?_
  refine G.cond (b := standing_stands s pos l decl != 0) rfl (fun h1 => ?_) (fun h1 => ?_)
  · refine G.seqR tfine rfl trivial ?_
    refine G.ret (endK.ret rfl ?_)
    rw [stCheck, if_pos h1]
  refine G.skip ?_
  obtain ⟨hck, hps, hE⟩ := stands_prof (show standing_stands s pos l decl = 0 by simpa using h1)
  have hok := profE_ok hE
  have hE' : (profE l != 0) = false := by rw [hE]; rfl
  refine G.seq ?_
  refine G.seqR tfine rfl trivial ?_
  refine G.cond (b := decide ((lv.length : Int) < 2)) rfl (fun h2 => ?_) (fun h2 => ?_)
  · refine G.seqR tfine rfl trivial ?_
    refine G.ret (endK.ret rfl ?_)
    rw [stCheck, if_neg (fne h1), if_pos h2]
  refine G.skip ?_
  refine G.seq ?_
  refine G.seqR tfine rfl trivial ?_
  refine G.cond (b := decide ((lv.length : Int) > 128)) rfl (fun h5 => ?_) (fun h5 => ?_)
  · refine G.seqR tfine rfl trivial ?_
    refine G.ret (endK.ret rfl ?_)
    rw [stCheck, if_neg (fne h1), if_neg (fne h2), if_pos h5]
  refine G.skip ?_
  have hr : stCheck s pos l decl lv = if stOut lv (lenP l) = true then 2 else if stDown lv = true then 5 else if stMiss l lv = true then 7 else 0 := by rw [stCheck, if_neg (fne h1), if_neg (fne h2), if_neg (fne h5)]
  have hlv : 2 ≤ lv.length := by have := of_decide_eq_false h2; omega
  refine G.seqC tfine rfl trivial ?_
  refine GO.callPlain (v := .tuple #[I (lenP l), I 0]) rfl rfl rfl rfl (fun args w => Tryz.call26 args w) (fun ρ w hs hok => ?_) ?_
  · have := profile_Length_any A c l w (hs.row (cap := c) rfl (hok _ List.mem_cons_self)) hn
    rw [profile_Length, if_neg (fne hE')] at this
    exact this
  refine GO.fin tfine rfl trivial ?_
  refine G.seq (G.seqR tfine rfl trivial ?_)
  refine G.block (G.loop (fun k : Nat => St.of [(1, .v (.c (.inp 1001 B lv.length d))), (2, .v (.c (.ptr 2 0 0 0))), (6, .v (.c (.k (I (lenP l))))), (30, .v (.c (.inp 1001 B lv.length d))), (31, .v (.c (.k (I lv.length)))), (32, .v (.c (.k (I k))))]
      [(1000, .ro 2 l.length (elP l)), (1001, .ro 1 lv.length (elI lv)), (2, .var 24 [.k (.string s), .k (I pos), .inp 1000 A l.length c, .k (I decl)])])
    (fun k => k ≤ lv.length ∧ ∀ j, j < k → (decide (lv.getD j 0 < 0) || decide (lv.getD j 0 > lenP l)) = false) (fun k => lv.length - k) 0 ⟨Nat.zero_le _, fun j hj => absurd hj (Nat.not_lt_zero j)⟩ (St.le_of rfl ⟨⟨_, rfl, Blk.le_refl _⟩, ⟨_, rfl, Blk.le_refl _⟩, ⟨_, rfl, Blk.le_refl _⟩, trivial⟩ ⟨rfl, rfl, rfl, rfl, rfl, rfl, trivial⟩) ?_)
  rintro k ⟨hk, hall⟩
  refine G.seqR tfine rfl trivial ?_
  refine G.seq (G.cond (b := decide ((k : Int) < (lv.length : Int))) rfl (fun h6 => ?_) (fun h6 => ?_))
  · have h6 := of_decide_eq_true h6
    have hlt : k < lv.length := by omega
    refine G.skip ?_
    refine G.seq (G.block ?_)
    refine G.seqR tfine rfl ?_ ?_
    · first | trivial | (simp [AllP, condB]; done) | (simp only [AllP]; and_intros <;> first | trivial | decide | omega) | (simp [AllP, condB]; intros; and_intros <;> first | assumption | omega) | (simp [AllP, condB]; intros; simp_all; done)
    refine G.seqR tfine rfl ?_ ?_
    · first | trivial | (simp [AllP, condB]; done) | (simp only [AllP]; and_intros <;> first | trivial | decide | omega) | (simp [AllP, condB]; intros; and_intros <;> first | assumption | omega) | (simp [AllP, condB]; intros; simp_all; done)
    refine G.cond (b := decide (lv.getD k 0 < 0) || decide (lv.getD k 0 > lenP l)) rfl (fun h7 => ?_) (fun h7 => ?_)
    · refine G.seqR tfine rfl trivial ?_
      refine G.ret (endK.ret rfl ?_)
      rw [hr, if_pos (show stOut lv (lenP l) = true from any_range (p := fun i => decide (lv.getD i 0 < 0) || decide (lv.getD i 0 > lenP l)) hlt h7)]
    · refine G.skip ?_
      refine G.reg tfine rfl trivial ?_
      refine ⟨k + 1, ⟨hlt, fun j hj => ?_⟩, (by show lv.length - (k + 1) < lv.length - k; omega), St.le_of rfl ⟨⟨_, rfl, Blk.le_refl _⟩, ⟨_, rfl, Blk.le_refl _⟩, ⟨_, rfl, Blk.le_refl _⟩, trivial⟩ ⟨rfl, rfl, rfl, rfl, rfl, ?_, trivial⟩⟩
      · rcases Nat.lt_or_ge j k with h | h
        · exact hall j h
        · rw [show j = k by omega]; exact h7
      · simp [up, I]; rw [IntWalk.i64_in _ (by omega)]
  have h6 := of_decide_eq_false h6
  have hkl : k = lv.length := by omega
  subst hkl
  have ho : stOut lv (lenP l) = false := any_range_no hall
  rw [ho] at hr
  have hr : stCheck s pos l decl lv = if stDown lv = true then 5 else if stMiss l lv = true then 7 else 0 := hr
  clear ho hall hk
  refine G.exit ?_
  refine G.seq (G.seqR tfine rfl trivial ?_)
  refine G.block (G.loop (fun k : Nat => St.of [(1, .v (.c (.inp 1001 B lv.length d))), (2, .v (.c (.ptr 2 0 0 0))), (10, .v (.c (.k (I (k + 1 : Nat)))))]
      [(1000, .ro 2 l.length (elP l)), (1001, .ro 1 lv.length (elI lv)), (2, .var 24 [.k (.string s), .k (I pos), .inp 1000 A l.length c, .k (I decl)])])
    (fun k => k + 1 ≤ lv.length ∧ ∀ j, j < k → decide (lv.getD j 0 ≥ lv.getD (j + 1) 0) = false) (fun k => lv.length - k) 0 ⟨by show 0 + 1 ≤ _; omega, fun j hj => absurd hj (Nat.not_lt_zero j)⟩ (St.le_of rfl ⟨⟨_, rfl, Blk.le_refl _⟩, ⟨_, rfl, Blk.le_refl _⟩, ⟨_, rfl, Blk.le_refl _⟩, trivial⟩ ⟨rfl, rfl, rfl, trivial⟩) ?_)
  rintro k ⟨hk, hall⟩
  refine G.seq ?_
  refine G.seqR tfine rfl trivial ?_
  refine G.cond (b := decide (((k + 1 : Nat) : Int) < (lv.length : Int))) rfl (fun h7 => ?_) (fun h7 => ?_)
  · have h7 := of_decide_eq_true h7
    have hlt : k + 1 < lv.length := by omega
    have hw1 : IntKind.i64.wrap (((k + 1 : Nat) : Int) - 1) = (k : Int) := by rw [show (((k + 1 : Nat) : Int) - 1) = (k : Int) by omega]; exact IntWalk.i64_in _ (by omega)
    refine G.skip ?_
    refine G.seq (G.block ?_)
    refine G.seqD tfine hmix [0, 0, 2, 7, 15, 0, 0, 96, 224, 511] [] rfl rfl rfl rfl ?_ ?_
    · simp only [AllP, hw1]
      and_intros <;> first | trivial | omega
    refine G.cond (b := decide (lv.getD (IntKind.i64.wrap (((k + 1 : Nat) : Int) - 1)).toNat 0 ≥ lv.getD (((k + 1 : Nat) : Int)).toNat 0)) rfl (fun h8 => ?_) (fun h8 => ?_)
    · rw [hw1, Int.toNat_natCast, Int.toNat_natCast] at h8
      refine G.seqR tfine rfl trivial ?_
      refine G.ret (endK.ret rfl ?_)
      rw [hr, if_pos (show stDown lv = true from any_range (p := fun i => decide (lv.getD i 0 ≥ lv.getD (i + 1) 0)) (show k < lv.length - 1 by omega) h8)]
    · rw [hw1, Int.toNat_natCast, Int.toNat_natCast] at h8
      refine G.skip ?_
      refine G.reg tfine rfl trivial ?_
      refine ⟨k + 1, ⟨hlt, fun j hj => ?_⟩, (by show lv.length - (k + 1) < lv.length - k; omega), St.le_of rfl ⟨⟨_, rfl, Blk.le_refl _⟩, ⟨_, rfl, Blk.le_refl _⟩, ⟨_, rfl, Blk.le_refl _⟩, trivial⟩ ⟨rfl, rfl, ?_, trivial⟩⟩
      · rcases Nat.lt_or_ge j k with h | h
        · exact hall j h
        · rw [show j = k by omega]; exact h8
      · simp [up, I]; rw [IntWalk.i64_in _ (by omega)]
  have h7 := of_decide_eq_false h7
  have hkl : k = lv.length - 1 := by omega
  subst hkl
  have ho : stDown lv = false := any_range_no hall
  rw [ho] at hr
  have hr : stCheck s pos l decl lv = if stMiss l lv = true then 7 else 0 := hr
  clear ho hall hk h7
  refine G.exit ?_
  refine G.seq (G.seqR tfine rfl trivial ?_)
  refine G.block (G.loop (fun k : Nat => St.of [(1, .v (.c (.inp 1001 B lv.length d))), (61, .v (.c (.inp 1000 A l.length c))), (62, .v (.c (.k (I l.length)))), (63, .v (.c (.k (I k))))]
      [(1000, .ro 2 l.length (elP l)), (1001, .ro 1 lv.length (elI lv))])
    (fun k => k ≤ l.length ∧ ∀ j, j < k → ((decide ((pt l j).1 > lv.getD 0 0) && decide ((pt l j).1 < lastI lv)) && !(hasI lv (pt l j).1)) = false) (fun k => l.length - k) 0 ⟨Nat.zero_le _, fun j hj => absurd hj (Nat.not_lt_zero j)⟩ (St.le_of rfl ⟨⟨_, rfl, Blk.le_refl _⟩, ⟨_, rfl, Blk.le_refl _⟩, trivial⟩ ⟨rfl, rfl, rfl, rfl, trivial⟩) ?_)
  rintro k ⟨hk, hall⟩
  refine G.seqR tfine rfl trivial ?_
  refine G.seq (G.cond (b := decide ((k : Int) < (l.length : Int))) rfl (fun h7 => ?_) (fun h7 => ?_))
  rotate_left
  · have h7 := of_decide_eq_false h7
    have hkl : k = l.length := by omega
    subst hkl
    have ho : stMiss l lv = false := any_range_no hall
    rw [ho] at hr
    refine G.exit ?_
    refine G.seqR tfine rfl trivial ?_
    refine G.ret (endK.ret rfl ?_)
    rw [hr]; rfl
  have h7 := of_decide_eq_true h7
  have hlt : k < l.length := by omega
  have hw2 : IntKind.i64.wrap ((lv.length : Int) - 1) = ((lv.length - 1 : Nat) : Int) := by rw [show (lv.length : Int) - 1 = ((lv.length - 1 : Nat) : Int) by omega]; exact IntWalk.i64_in _ (by omega)
  refine G.skip ?_
  refine G.seq (G.block ?_)
  refine G.seqR tfine rfl ?_ ?_
  · first | trivial | (simp [AllP, condB]; done) | (simp only [AllP]; and_intros <;> first | trivial | decide | omega) | (simp [AllP, condB]; intros; and_intros <;> first | assumption | omega) | (simp [AllP, condB]; intros; simp_all; done)
  refine G.seqDraw hmix [0, 1, 0, 4, 12, 31, 63, 127, 255, 127, 127, 1151, 3199, 7807, 15999, 32767, 65535, 131071, 262143, 262143, 786431, 2097151, 4194303, 8388607] [] rfl rfl rfl ?_
  refine GD.more tfine 0 rfl rfl ?_ ?_
  · simp only [AllP, condB, hw2]
    and_intros <;> first | trivial | (intros; omega) | (intros; assumption) | (intros; simp_all; done)
  refine GD.callGuard (.bool (hasI lv (pt l k).1)) 21 rfl rfl rfl rfl ?_ rfl rfl (fun args w => Tryz.call68 args w) rfl (fun _ m hle ρ w hs hok => containsI_any B d lv _ w (hs.row (cap := d) (LeM.at hle rfl) (hok _ List.mem_cons_self)) hl2) ?_
  · first | exact trivial | exact ⟨id, trivial⟩ | exact ⟨id, id, trivial⟩ | exact ⟨id, id, id, trivial⟩
  refine GD.fin tfine 22 rfl rfl ?_ ?_
  · simp only [AllP, condB]
    and_intros <;> first | trivial | (intros; omega) | (intros; assumption) | (intros; simp_all; done)
  refine G.cond (b := (decide ((pt l k).1 > lv.getD 0 0) && decide ((pt l k).1 < lv.getD (IntKind.i64.wrap ((lv.length : Int) - 1)).toNat 0)) && !(hasI lv (pt l k).1)) rfl (fun h8 => ?_) (fun h8 => ?_)
  · rw [hw2, Int.toNat_natCast] at h8
    refine G.seqR tfine rfl trivial ?_
    refine G.ret (endK.ret rfl ?_)
    rw [hr, if_pos (show stMiss l lv = true from any_range (p := fun i => (decide ((pt l i).1 > lv.getD 0 0) && decide ((pt l i).1 < lastI lv)) && !(hasI lv (pt l i).1)) hlt h8)]
  · rw [hw2, Int.toNat_natCast] at h8
    refine G.skip ?_
    refine G.reg tfine rfl trivial ?_
    refine ⟨k + 1, ⟨hlt, fun j hj => ?_⟩, (by show l.length - (k + 1) < l.length - k; omega), St.le_of rfl ⟨⟨_, rfl, Blk.le_refl _⟩, ⟨_, rfl, Blk.le_refl _⟩, trivial⟩ ⟨rfl, rfl, rfl, ?_, trivial⟩⟩
    · rcases Nat.lt_or_ge j k with h | h
      · exact hall j h
      · rw [show j = k by omega]; exact h8
    · simp [up, I]; rw [IntWalk.i64_in _ (by omega)]
end Go.Proofs.YtphipfmidfoflaaGreat
/- The contracts of slices.Sort, Clone and Compact at []int, laid at this program (written by the kit's tool, in plain words). -/
namespace Go.Proofs
open Go.Shelf
def Tryz.lays189_ren : Go.Shelf.Ren := ⟨fun | 189 => 65 | 125 => 99 | 257 => 98 | 128 => 125 | 129 => 126 | 294 => 116 | 295 => 117 | 296 => 118 | 297 => 119 | 298 => 120 | 299 => 121 | 216 => 122 | 300 => 123 | 301 => 124 | 328 => 134 | 329 => 135 | 330 => 136 | 331 => 137 | 332 => 138 | 215 => 74 | 343 => 144 | n => n, fun | 28 => 51 | 3 => 3 | 46 => 137 | 0 => 0 | 51 => 170 | 53 => 109 | 4 => 4 | 183 => 162 | 182 => 161 | 131 => 167 | 5 => 5 | 9 => 9 | 218 => 174 | 222 => 178 | 228 => 184 | 229 => 185 | n => n, fun | n => n⟩
theorem Tryz.lays189 : Go.Proofs.Lays.n189 Tryz.prog Tryz.lays189_ren := {
  mixed := by kernel_rfl
  f125 := Tryz.func99.trans (congrArg some (by kernel_rfl))
  f128 := Tryz.func125.trans (congrArg some (by kernel_rfl))
  f129 := Tryz.func126.trans (congrArg some (by kernel_rfl))
  f189 := Tryz.func65.trans (congrArg some (by kernel_rfl))
  f215 := Tryz.func74.trans (congrArg some (by kernel_rfl))
  f216 := Tryz.func122.trans (congrArg some (by kernel_rfl))
  f257 := Tryz.func98.trans (congrArg some (by kernel_rfl))
  f294 := Tryz.func116.trans (congrArg some (by kernel_rfl))
  f295 := Tryz.func117.trans (congrArg some (by kernel_rfl))
  f296 := Tryz.func118.trans (congrArg some (by kernel_rfl))
  f297 := Tryz.func119.trans (congrArg some (by kernel_rfl))
  f298 := Tryz.func120.trans (congrArg some (by kernel_rfl))
  f299 := Tryz.func121.trans (congrArg some (by kernel_rfl))
  f300 := Tryz.func123.trans (congrArg some (by kernel_rfl))
  f301 := Tryz.func124.trans (congrArg some (by kernel_rfl))
  f328 := Tryz.func134.trans (congrArg some (by kernel_rfl))
  f329 := Tryz.func135.trans (congrArg some (by kernel_rfl))
  f330 := Tryz.func136.trans (congrArg some (by kernel_rfl))
  f331 := Tryz.func137.trans (congrArg some (by kernel_rfl))
  f332 := Tryz.func138.trans (congrArg some (by kernel_rfl))
  f343 := Tryz.func144.trans (congrArg some (by kernel_rfl))
  t0 := Tryz.underlying0
  a0 := Tryz.isAgg0
  z0 := Tryz.sizeOf0
  v0 := Tryz.zeroValue0
  t3 := Tryz.underlying3
  a3 := Tryz.isAgg3
  z3 := Tryz.sizeOf3
  v3 := Tryz.zeroValue3
  t4 := Tryz.underlying4
  a4 := Tryz.isAgg4
  z4 := Tryz.sizeOf4
  v4 := Tryz.zeroValue4
  t5 := Tryz.underlying5
  a5 := Tryz.isAgg5
  z5 := Tryz.sizeOf5
  v5 := Tryz.zeroValue5
  t9 := Tryz.underlying9
  a9 := Tryz.isAgg9
  z9 := Tryz.sizeOf9
  v9 := Tryz.zeroValue9
  t28 := Tryz.underlying51
  a28 := Tryz.isAgg51
  z28 := Tryz.sizeOf51
  v28 := Tryz.zeroValue51
  t46 := Tryz.underlying137
  a46 := Tryz.isAgg137
  z46 := Tryz.sizeOf137
  v46 := Tryz.zeroValue137
  t51 := Tryz.underlying170
  a51 := Tryz.isAgg170
  z51 := Tryz.sizeOf170
  v51 := Tryz.zeroValue170
  t53 := Tryz.underlying109
  a53 := Tryz.isAgg109
  z53 := Tryz.sizeOf109
  v53 := Tryz.zeroValue109
  t131 := Tryz.underlying167
  a131 := Tryz.isAgg167
  z131 := Tryz.sizeOf167
  v131 := Tryz.zeroValue167
  t182 := Tryz.underlying161
  a182 := Tryz.isAgg161
  z182 := Tryz.sizeOf161
  v182 := Tryz.zeroValue161
  t183 := Tryz.underlying162
  a183 := Tryz.isAgg162
  z183 := Tryz.sizeOf162
  v183 := Tryz.zeroValue162
  t218 := Tryz.underlying174
  a218 := Tryz.isAgg174
  z218 := Tryz.sizeOf174
  v218 := Tryz.zeroValue174
  t222 := Tryz.underlying178
  a222 := Tryz.isAgg178
  z222 := Tryz.sizeOf178
  v222 := Tryz.zeroValue178
  t228 := Tryz.underlying184
  a228 := Tryz.isAgg184
  z228 := Tryz.sizeOf184
  v228 := Tryz.zeroValue184
  t229 := Tryz.underlying185
  a229 := Tryz.isAgg185
  z229 := Tryz.sizeOf185
  v229 := Tryz.zeroValue185 }
open Go.Sort Go.RowKit in
theorem Tryz.slices_Sort_int (blk off cap : Nat) (zs : List Int) (w : World) (hH : Holds (Value.int .i64) w blk off zs.toArray) (hblk : blk < w.heap.size) (hsz : zs.length < 4611686018427387904) :
    Calls Tryz.prog 65 #[.slice (some ⟨blk, off, none⟩) zs.length cap] w fun e w' =>
      e = .returned (.tuple #[]) ∧ ∃ n os, w' = grow (putRow (Value.int .i64) (Sort.ahead w n) blk off (zs.mergeSort fun x y => decide (x ≤ y)).toArray) os := Any.slices_Sort_int Tryz.lays189 blk off cap zs w hH hblk hsz
def Tryz.laysNm215_ren : Go.Shelf.Ren := ⟨fun | 15 => 64 | n => n, fun | 22 => 51 | 3 => 3 | 4 => 4 | n => n, fun | n => n⟩
theorem Tryz.laysNm215 : Go.Proofs.Lays2.n15 Tryz.prog Tryz.laysNm215_ren := {
  mixed := by kernel_rfl
  f15 := Tryz.func64.trans (congrArg some (by kernel_rfl))
  t3 := Tryz.underlying3
  a3 := Tryz.isAgg3
  z3 := Tryz.sizeOf3
  v3 := Tryz.zeroValue3
  t4 := Tryz.underlying4
  a4 := Tryz.isAgg4
  z4 := Tryz.sizeOf4
  v4 := Tryz.zeroValue4
  t22 := Tryz.underlying51
  a22 := Tryz.isAgg51
  z22 := Tryz.sizeOf51
  v22 := Tryz.zeroValue51
  i3 := by kernel_rfl }
open Go.RowKit Go.Lib in
theorem Tryz.slices_Clone_int (b off n c : Nat) (zs : List Int) (w : World) (hz : n ≤ zs.length) (hbig : n * 8 ≤ 140737488355328) (hc : ∀ j, j < zs.length → w.cell? ⟨b, off + j, none⟩ = some (.int .i64 (zs.getD j 0))) :
    Calls Tryz.prog 64 #[.slice (some ⟨b, off, none⟩) n c] w fun e w' => ∃ v', e = .returned v' ∧ w'.ownsRow w.heap.size 3 1 v' n ((zs.take n).map (Value.int .i64)) ∧ v' ≠ .slice none 0 0 ∧ Below w.heap.size w w' := Any.slices_Clone_int Tryz.laysNm215 b off n c zs w hz hbig hc
def Tryz.laysNm220_ren : Go.Shelf.Ren := ⟨fun | 20 => 66 | n => n, fun | 22 => 51 | 3 => 3 | 4 => 4 | 0 => 0 | n => n, fun | n => n⟩
theorem Tryz.laysNm220 : Go.Proofs.Lays2.n20 Tryz.prog Tryz.laysNm220_ren := {
  mixed := by kernel_rfl
  f20 := Tryz.func66.trans (congrArg some (by kernel_rfl))
  t0 := Tryz.underlying0
  a0 := Tryz.isAgg0
  z0 := Tryz.sizeOf0
  v0 := Tryz.zeroValue0
  t3 := Tryz.underlying3
  a3 := Tryz.isAgg3
  z3 := Tryz.sizeOf3
  v3 := Tryz.zeroValue3
  t4 := Tryz.underlying4
  a4 := Tryz.isAgg4
  z4 := Tryz.sizeOf4
  v4 := Tryz.zeroValue4
  t22 := Tryz.underlying51
  a22 := Tryz.isAgg51
  z22 := Tryz.sizeOf51
  v22 := Tryz.zeroValue51
  i3 := by kernel_rfl }
open Go.RowKit Go.Lib Go.Sort in
theorem Tryz.slices_Compact_int (blk off cap : Nat) (zs : List Int) (w : World) (hH : Holds (Value.int .i64) w blk off zs.toArray) (hsz : zs.length ≤ 9223372036854775807) (hcap : zs.length ≤ cap) :
    Calls Tryz.prog 66 #[.slice (some ⟨blk, off, none⟩) zs.length cap] w fun e w' => e = .returned (.slice (some ⟨blk, off, none⟩) (Lib.compact zs).length cap) ∧ ∃ q, w' = putRow (Value.int .i64) (Sort.ahead w q) blk off (Lib.compact zs ++ List.replicate (zs.length - (Lib.compact zs).length) 0).toArray := Any.slices_Compact_int Tryz.laysNm220 blk off cap zs w hH hsz hcap
end Go.Proofs
/- Top: different numbers in ascending order. -/
set_option linter.unusedVariables false
set_option linter.unusedSimpArgs false
set_option maxRecDepth 8000
set_option maxHeartbeats 1000000
namespace Go.Proofs.YtphipfmidfoflaaGreat
open Go.Sx Go.RowKit Go.Sort
def srtA (l : List Int) : List Int := l.mergeSort fun x y => decide (x ≤ y)
def srtL (l : List Int) : List Int := Lib.compact (srtA l)
theorem srtA_len (l : List Int) : (srtA l).length = l.length := List.length_mergeSort l
theorem compact_len (zs : List Int) : (Lib.compact zs).length ≤ zs.length := by
  unfold Lib.compact Lib.compactUpTo
  rw [List.length_map]
  exact Nat.le_trans (List.length_filter_le _ _) (by simp)
/-- A row of whole numbers in a block of ours. -/
def SrtR (w0 : Nat) (zs : List Int) (g cap : Nat) (w : World) : Prop := w0 ≤ g ∧ zs.length ≤ cap ∧ ∃ cur, w.heap[g]? = some (.cells cur 3 (0, 0)) ∧ cap ≤ maxLen ∧ cur.size = cap ∧ cur.toList.take zs.length = zs.map (Value.int .i64)
theorem SrtR.steady {w0 : Nat} {zs : List Int} {g cap : Nat} : Steady (· = g) (SrtR w0 zs g cap) := by
  rintro w1 w2 h1 h2 ⟨e1, e2, cur, e4, e5⟩
  exact ⟨e1, e2, cur, (h1 g rfl).trans e4, e5⟩
theorem putRow_at {w : World} {g n : Nat} {os : Array Obj} {cur : Array Value} {e : TypeId} {fr : Nat × Nat} (d : Array Int) (hb : w.heap[g]? = some (.cells cur e fr)) :
    (grow (putRow (Value.int .i64) (Sort.ahead w n) g 0 d) os).heap[g]? = some (.cells (putCells (Value.int .i64) 0 d cur) e fr) ∧ Fr w [g] (grow (putRow (Value.int .i64) (Sort.ahead w n) g 0 d) os) := by
  refine ⟨heap_sortedI d hb, ?_⟩
  have := grownBy_sortedI (w := w) (g := g) (n := n) (os := os) d
  exact ⟨this.os, this.tape, this.output, this.size, fun k hk hn => this.block k hk (fun e => hn (by injection e with e; simp [e]))⟩
section
variable {P : Program} {E : Env} {K : Exit → St → Prop} {ops : Array Oper} {rest : List Oper}
/-- A call that turns the block of which it is told under X. -/
theorem GO.callTurnK {o : Oper} {c : Call} {f : FuncId} {avs : List AV} {caps : List Cap} {t : Nat → TV} {m : Mem} {v : Value} (X : Nat) {S : Nat → Prop} {R : World → Prop} (F : List Nat) (S' : Nat → Prop) (R' : World → Prop) (hg : o.guard = none) (hop : o.op = .call c) (he : callE t c = .mk f avs caps) (hd : dstOk E.N o.dst = true)
    (hcf : ∀ (args : Array Value) (w : World), (callFunc f args).run P w = .ok (.enter f args) w) (hX : m X = some (.say S R)) (hE : ∀ w, R w → ∀ k, S k → E.w0.heap.size ≤ k) (hF : ∀ k ∈ F, S k) (hap : ∀ ρ w, SatM E ρ m w → ∀ x b, x ≠ X → m x = some b → b.live → b.own ∨ ∀ k, b.hits (ρ x) k → ¬ S k)
    (hc : ∀ ρ w, SatM E ρ m w → (∀ v ∈ avs, v.ok ρ m) → Calls P f (avs.map (AV.conc ρ) ++ caps.map (Cap.conc ρ)).toArray w fun e w' => e = .returned v ∧ Fr w F w' ∧ R' w' ∧ (∀ k, S' k → (w.heap.size ≤ k ∨ S k) ∧ k < w'.heap.size)) (hst : Steady S' R')
    (k : GO P E ops K rest ⟨Sx.putT t o.dst (toTV v), up m X (some (.say S' R'))⟩) : GO P E ops K (o :: rest) ⟨t, m⟩ := by
  refine GO.call hg hop he hcf (fun ρ a w hs hok _ => (hc ρ w hs.mem hok).mono ?_)
  rintro e w' ⟨rfl, hf, hr, hS'⟩
  have hM := hs.mem.turnX (l := []) (fun t ht => by cases ht) hX hf (fun k hk => .inr (hF k hk)) (hE w (hs.mem.ok X _ hX).1) (fun t ht => by cases ht) hr hS' hst (hap ρ w hs.mem)
  exact ⟨v, ρ, _, rfl, (hs.remem0 hM fun z hz => isSome_up z hz).putT (dstOk_lt hd) (toTV_rep _ _ v), k⟩
end
theorem rd_take {w : World} {g cap : Nat} {cur : Array Value} {zs : List Int} (hb : w.heap[g]? = some (.cells cur 3 (0, 0))) (ht : cur.toList.take zs.length = zs.map (Value.int .i64)) : RdRow w (some ⟨g, 0, none⟩) zs.length 1 (elI zs) := by
  refine fun _ => ⟨g, 0, rfl, lt_of_heap hb, fun i hi => ⟨rfl, fun j hj => ?_⟩⟩
  have : j = 0 := by omega
  subst this
  rw [cell_of_heap hb, Nat.zero_add, Nat.mul_one, Nat.add_zero, ← Array.getElem?_toList]
  have h2 : (cur.toList.take zs.length)[i]? = cur.toList[i]? := List.getElem?_take_of_lt hi
  rw [← h2, ht]
  simp [elI, hi, List.getD_eq_getElem?_getD]
theorem sorted_any (A : Option Addr) (c : Nat) (l : List Int) (w : World) (h : RdRow w A l.length 1 (elI l)) (h0 : 0 < l.length) (hn : l.length ≤ 1000) :
    Calls Tryz.prog 58 #[.slice A l.length c] w fun e w' => ∃ u : Nat × Nat, e = .returned (.slice (some ⟨u.1, 0, none⟩) (srtL l).length u.2) ∧ Below w.heap.size w w' ∧ RdRow w' (some ⟨u.1, 0, none⟩) (srtL l).length 1 (elI (srtL l)) ∧ w.heap.size ≤ u.1 ∧ u.1 < w'.heap.size := by
  obtain ⟨b, o, rfl, hb, hc⟩ := h h0
  have hrow := h
  refine enterSay [] [.c (.k (.slice (some ⟨b, o, none⟩) l.length c))] [(801, .say (sb (.slice (some ⟨b, o, none⟩) l.length c)) (fun w => RdRow w (some ⟨b, o, none⟩) l.length 1 (elI l)))] Tryz.func58 rfl 10 Tryz.ntmps58 rfl rfl ⟨trivial, trivial⟩ ⟨⟨h, sb_lt h, steady_row⟩, trivial, trivial⟩ ?_
  refine G.seqR tfine rfl trivial ?_
  refine G.seqC tfine rfl trivial ?_
  refine GO.callSay 712 (fun u : Nat × Nat => .slice (some ⟨u.1, 0, none⟩) l.length u.2) (fun u => (· = u.1)) (fun u => SrtR w.heap.size l u.1 u.2) rfl rfl rfl rfl rfl (fun args w => Tryz.call64 args w) (fun ρ w1 hs hok => ?_) fun u => ?_
  · have hr := (hs.ok 801 _ rfl).1
    have hcell : ∀ j, j < l.length → w1.cell? ⟨b, o + j, none⟩ = some (.int .i64 (l.getD j 0)) := by
      intro j hj
      obtain ⟨b2, o2, e, _, h5⟩ := hr h0
      injection e with e
      injection e with e1 e2
      subst e1
      subst e2
      have := (h5 j hj).2 0 Nat.one_pos
      simpa [elI] using this
    refine (Tryz.slices_Clone_int b o l.length c l w1 (Nat.le_refl _) (by omega) hcell).mono ?_
    rintro e w' ⟨v', rfl, hown, hnil, hbel⟩
    rcases hown.2 with ⟨rfl, h1⟩ | ⟨g, cap, cur, rfl, hg, hgg, hnc, hcm, hcs, htake⟩
    · omega
    refine ⟨(g, cap), rfl, hbel, ⟨Nat.le_trans hs.fr.size hg, hnc, cur, hgg, hcm, by rw [hcs, Nat.mul_one], ?_⟩, fun k hk => ?_, SrtR.steady⟩
    · rw [Nat.mul_one] at htake
      rw [htake, List.take_length]
    · have hk : k = g := hk
      rw [hk]
      exact ⟨hg, lt_of_heap hgg⟩
  obtain ⟨g, cap⟩ := u
  refine GO.fin tfine rfl trivial ?_
  have hap : ∀ (zs : List Int) (m : Mem), (∀ x, x ≠ 712 → m x = lkM [(801, .say (sb (.slice (some ⟨b, o, none⟩) l.length c)) (fun w => RdRow w (some ⟨b, o, none⟩) l.length 1 (elI l)))] x) → m 712 = some (.say (· = g) (SrtR w.heap.size zs g cap)) →
      ∀ ρ w', SatM ⟨w, borT 1000 [], 10, none, []⟩ ρ m w' → ∀ x b', x ≠ 712 → m x = some b' → b'.live → b'.own ∨ ∀ k, b'.hits (ρ x) k → ¬ k = g := by
    intro zs m hm h7 ρ w' hs x b' hx hb' hlv
    rw [hm x hx] at hb'
    by_cases e : x = 801
    · subst e
      have hb' : some (Blk.say (sb (.slice (some ⟨b, o, none⟩) l.length c)) (fun w => RdRow w (some ⟨b, o, none⟩) l.length 1 (elI l))) = some b' := hb'
      injection hb' with hb'
      subst hb'
      refine .inr fun k hk e => ?_
      have h1 := sb_lt (c := c) hrow k hk
      have h2 := (hs.ok 712 _ h7).1.1
      omega
    · have hb' : (bif Nat.beq x 801 then some _ else none) = some b' := hb'
      rw [nbeq e] at hb'
      cases hb'
  refine G.seqC tfine rfl trivial ?_
  refine GO.callTurnK (v := .tuple #[]) 712 [g] (· = g) (SrtR w.heap.size (srtA l) g cap) rfl rfl rfl rfl (fun args w => Tryz.call65 args w) rfl (fun w1 h1 k hk => by rw [hk]; exact h1.1) (fun k hk => List.mem_singleton.1 hk) (hap l _ (fun x hx => up_other _ _ hx) (up_same _ _ _)) (fun ρ w1 hs hok => ?_) SrtR.steady ?_
  · obtain ⟨x1, x2, cur, x3, x4, x5, x6⟩ := (hs.ok 712 _ (up_same _ _ _)).1
    refine (Tryz.slices_Sort_int g 0 cap l w1 (holds_of_blockI x3 x6) (lt_of_heap x3) (by omega)).mono ?_
    rintro e w' ⟨rfl, n, os, rfl⟩
    obtain ⟨y1, y2⟩ := putRow_at (w := w1) (n := n) (os := os) (srtA l).toArray x3
    have hl := srtA_len l
    refine ⟨rfl, y2, ⟨x1, by omega, _, y1, x4, by simp [putCells, x5], ?_⟩, fun k hk => ⟨.inr hk, by rw [hk]; exact lt_of_heap y1⟩⟩
    have := take_putCellsI cur (srtA l) (by omega)
    exact this
  refine GO.fin tfine rfl trivial ?_
  refine G.seqC tfine rfl trivial ?_
  have hl := srtA_len l
  refine GO.callTurnK (v := .slice (some ⟨g, 0, none⟩) (srtL l).length cap) 712 [g] (· = g) (fun w1 => (w.heap.size ≤ g ∧ g < w1.heap.size) ∧ ∃ cur, w1.heap[g]? = some (.cells cur 3 (0, 0)) ∧ cur.toList.take (srtL l).length = (srtL l).map (Value.int .i64)) rfl rfl rfl rfl (fun args w => Tryz.call66 args w) rfl (fun w1 h1 k hk => by rw [hk]; exact h1.1) (fun k hk => List.mem_singleton.1 hk) (hap (srtA l) _ (fun x hx => (up_other _ _ hx).trans (up_other _ _ hx)) (up_same _ _ _)) (fun ρ w1 hs hok => ?_) ?_ ?_
  · obtain ⟨x1, x2, cur, x3, x4, x5, x6⟩ := (hs.ok 712 _ (up_same _ _ _)).1
    have hcall := Tryz.slices_Compact_int g 0 cap (srtA l) w1 (holds_of_blockI x3 x6) (by omega) x2
    rw [hl] at hcall
    refine hcall.mono ?_
    rintro e w' ⟨rfl, n, hw'⟩
    have hcl := compact_len (srtA l)
    have hz : (srtL l ++ List.replicate (l.length - (srtL l).length) 0).length = l.length := by
      simp only [List.length_append, List.length_replicate]
      have : (srtL l).length ≤ l.length := by rw [← hl]; exact hcl
      omega
    obtain ⟨y1, y2⟩ := putRow_at (w := w1) (n := n) (os := #[]) (srtL l ++ List.replicate (l.length - (srtL l).length) 0).toArray x3
    rw [grow_empty] at y1 y2
    have hw' : w' = putRow (Value.int .i64) (Sort.ahead w1 n) g 0 (srtL l ++ List.replicate (l.length - (srtL l).length) 0).toArray := hw'
    rw [← hw'] at y1 y2
    refine ⟨rfl, y2, ⟨⟨x1, lt_of_heap y1⟩, _, y1, ?_⟩, fun k hk => ⟨.inr hk, by rw [hk]; exact lt_of_heap y1⟩⟩
    have h9 := take_putCellsI cur (srtL l ++ List.replicate (l.length - (srtL l).length) 0) (by omega)
    have h10 := congrArg (List.take (srtL l).length) h9
    rw [List.take_take, Nat.min_eq_left (by rw [hz, ← hl]; exact hcl)] at h10
    rw [h10, List.map_append, List.take_append_of_le_length (by simp), List.take_of_length_le (by simp)]
  · rintro w1 w2 h1 h2 ⟨⟨e1, e2⟩, cur, e4, e5⟩
    exact ⟨⟨e1, Nat.lt_of_lt_of_le e2 h2⟩, cur, (h1 g rfl).trans e4, e5⟩
  refine GO.fin tfine rfl trivial ?_
  refine G.ret ⟨.inl rfl, fun ρ a w' hs => ?_⟩
  obtain ⟨⟨x1, x2⟩, cur, x3, x4⟩ := (hs.mem.ok 712 _ rfl).1
  exact ⟨_, results_run tfine hs rfl, (g, cap), rfl, hs.mem.fr.toBelow, rd_take (cap := cap) x3 x4, x1, x2⟩
end Go.Proofs.YtphipfmidfoflaaGreat
/- Top: the levels of standing casks, and their wet space. -/
set_option linter.unusedVariables false
set_option linter.unusedSimpArgs false
set_option maxRecDepth 8000
set_option maxHeartbeats 2000000
namespace Go.Proofs.YtphipfmidfoflaaGreat
open Go.Sx Go.RowKit
section
variable {P : Program} {E : Env} {K : Exit → St → Prop}
/-- Another name for a row of ours. -/
theorem G.renArr {c : Code} {t : Nat → TV} {m : Mem} (x y d : Nat) {sz n c1 room : Nat} {e : TypeId} {el : Nat → List Value} (hm : m x = some (.arr e sz n el room)) (ht : t d = .v (.c (.slc x 0 sz n c1))) (hxb : Nat.blt x 1000 = true) (hy : m y = none) (hyb : Nat.blt y 1000 = true)
    (k : G P E K c ⟨up t d (.v (.c (.slc y 0 sz n c1))), up (up m x (some (.ro 0 0 fun _ => []))) y (some (.arr e sz n el room))⟩) : G P E K c ⟨t, m⟩ := by
  intro hn ρ a w hs
  have hxb : x < 1000 := by simpa [Nat.blt_eq] using hxb
  have hyb : y < 1000 := by simpa [Nat.blt_eq] using hyb
  obtain ⟨k1, k2, k3⟩ := hs.mem.ok x _ hm
  have k2' : E.w0.heap.size ≤ (ρ x).1 := by
    rcases k2 with h | h
    · exact h
    · have := (hs.mem.bo _ h).2
      simp only at this
      omega
  have h2 := hs.mem.reown (b' := .arr e sz n el room) hm trivial trivial hy hyb fun ρ' m' e1 => ⟨by rw [e1]; exact k1, .inl (by rw [e1]; exact k2'), by rw [e1]; exact k3⟩
  have hρ : ∀ z, (m z).isSome = true → up ρ y (ρ x) z = ρ z := fun z hz => up_other _ _ fun e => by rw [e, hy] at hz; cases hz
  have hmv := hs.move h2 (fun z hz => isSome_up z (isSome_up z hz)) hρ
  refine k hn _ a w ⟨h2, hmv.df, hmv.sz, fun j => ?_⟩
  by_cases hj : j = d
  · subst hj
    show TV.rep _ _ (up t j _ j) _
    rw [up_same]
    have hd := hs.tm j
    rw [show (St.mk t m).t j = _ from ht] at hd
    refine ⟨?_, ?_⟩
    · show (up (up m x (some (.ro 0 0 fun _ => []))) y (some (.arr e sz n el room)) y).isSome = true
      rw [up_same]; rfl
    rw [hd.2]
    simp only [AV.conc, AC.conc, up_same]
  · show TV.rep _ _ (up t d _ j) _
    rw [up_other _ _ hj]
    exact hmv.tm j
end
/-! ### Levels -/
def lvl (dip n : Int) (i : Nat) : Int := IntKind.i64.wrap ((IntKind.i64.wrap ((i : Int) * dip)).tdiv n)
def lvM (dip n : Int) (k : Nat) : List Int := (List.range k).map fun i => lvl dip n i
theorem lvM_len (dip n : Int) (k : Nat) : (lvM dip n k).length = k := by simp [lvM]
theorem lvM_succ (dip n : Int) (k : Nat) : lvM dip n (k + 1) = lvM dip n k ++ [lvl dip n k] := by simp [lvM, List.range_succ]
def addX (l : List (Int × Int)) (dip : Int) (o : List Int) : Nat → List Int
  | 0 => o
  | k + 1 => if (pt l k).1 < dip then addX l dip o k ++ [(pt l k).1] else addX l dip o k
theorem addX_len (l : List (Int × Int)) (dip : Int) (o : List Int) : ∀ k, o.length ≤ (addX l dip o k).length ∧ (addX l dip o k).length ≤ o.length + k
  | 0 => ⟨Nat.le_refl _, Nat.le_refl _⟩
  | k + 1 => by
    have := addX_len l dip o k
    unfold addX
    split
    · simp; omega
    · omega
def rawL (l : List (Int × Int)) (dip n : Int) : List Int := addX l dip (lvM dip n (n.toNat + 1)) l.length
def levelsM (l : List (Int × Int)) (dip n : Int) : List Int × Int := if (profE l != 0) = true then ([], 1) else if ((((decide (dip < 0)) || (decide (dip > lenP l))) || (decide (n < 1))) || (decide (n > 64))) = true then ([], 2) else (srtL (rawL l dip n), 0)
theorem retRowC {P : Program} {T : Tab} (hT : Tab.fine P T) {w : World} {N : Nat} {fn : Func} {st : St} {er : Int} {o : List Int} {g c : Nat} (X : Nat) (hX : st.m X = some (.say (· = g) fun w1 => RdRow w1 (some ⟨g, 0, none⟩) o.length 1 (elI o) ∧ w.heap.size ≤ g))
    (hv : resP T st fn.results.toList = .mk (.tuple #[.slice (some ⟨g, 0, none⟩) o.length c, I er])) : retK P ⟨w, [], N, none, []⟩ fn (fun e w' => RowAns w w' o er e) .ret st :=
  ⟨.inl rfl, fun ρ a w' hs => ⟨_, results_run hT hs hv, ⟨(some ⟨g, 0, none⟩, c), rfl, hs.mem.fr.toBelow, (hs.mem.ok X _ hX).1.1, fun k hk => by
    obtain ⟨_, a, e, rfl⟩ := hk
    injection e with e
    rw [← e]
    exact ⟨(hs.mem.ok X _ hX).1.2, (hs.mem.ok X _ hX).2.1 g rfl⟩, steady_row⟩⟩⟩
theorem levels_any (A : Option Addr) (c : Nat) (l : List (Int × Int)) (dip n : Int) (w : World) (h : RdRow w A l.length 2 (elP l)) (hn : l.length ≤ 100000) : Calls Tryz.prog 31 #[.slice A l.length c, I dip, I n] w fun e w' => RowAns w w' (levelsM l dip n).1 (levelsM l dip n).2 e := by
  refine enterSay [] [.c (.k (.slice A l.length c)), .c (.k (I dip)), .c (.k (I n))] [(801, .say (sb (.slice A l.length c)) (fun w => RdRow w A l.length 2 (elP l)))] Tryz.func31 rfl 68 Tryz.ntmps31 rfl rfl ⟨trivial, trivial, trivial, trivial⟩ ⟨⟨h, sb_lt h, steady_row⟩, trivial, trivial⟩ ?_
  refine G.openSay 801 805 0 rfl (fun _ h => h) (fun _ h => h) rfl rfl rfl ?_
  refine G.seqR tfine rfl trivial ?_
  refine G.seqC tfine rfl trivial ?_
  refine GO.callPlain (v := .tuple #[I (profile_Length l).1, I (profile_Length l).2]) rfl rfl rfl rfl (fun args w => Tryz.call26 args w) (fun ρ w hs hok => profile_Length_any A c l w (hs.ok 801 _ rfl).1 hn) ?_
  refine GO.fin tfine rfl trivial ?_
  have e2 : (profile_Length l).2 = profE l := by
    unfold profile_Length
    split
    · rfl
    · rename_i h1; simp at h1; exact h1.symm
  rw [e2]
  refine G.seq ?_
  refine G.seqR tfine rfl trivial ?_
  refine G.cond (b := profE l != 0) rfl (fun h1 => ?_) (fun h1 => ?_)
  · refine G.seqR tfine rfl trivial ?_
    have e : levelsM l dip n = ([], 1) := by rw [levelsM, if_pos h1]
    rw [e]
    exact G.ret (retRowNil tfine rfl rfl)
  have e1 : (profile_Length l).1 = lenP l := by rw [profile_Length, if_neg (fne h1)]
  rw [e1]
  refine G.skip ?_
  refine G.seq ?_
  refine G.seqR tfine rfl ?_ ?_
  · first | trivial | (simp [AllP, condB]; done) | (simp only [AllP]; and_intros <;> first | trivial | decide | omega) | (simp [AllP, condB]; intros; and_intros <;> first | assumption | omega) | (simp [AllP, condB]; intros; simp_all; done)
  refine G.cond (b := (((decide (dip < 0)) || (decide (dip > lenP l))) || (decide (n < 1))) || (decide (n > 64))) rfl (fun h2 => ?_) (fun h2 => ?_)
  · refine G.seqR tfine rfl trivial ?_
    have e : levelsM l dip n = ([], 2) := by rw [levelsM, if_neg (fne h1), if_pos h2]
    rw [e]
    exact G.ret (retRowNil tfine rfl rfl)
  have hok := profE_ok (profE_of0 h1)
  have hlm := hok.most
  have hnn : 1 ≤ n ∧ n ≤ 64 := by
    simp only [Bool.or_eq_false_iff, decide_eq_false_iff_not] at h2
    omega
  have eL : levelsM l dip n = (srtL (rawL l dip n), 0) := by rw [levelsM, if_neg (fne h1), if_neg (fne h2)]
  rw [eL]
  refine G.skip ?_
  refine G.seqR tfine rfl trivial ?_
  refine G.seq (G.seqR tfine rfl trivial ?_)
  have hw1 : IntKind.i64.wrap (n + 1) = ((n.toNat + 1 : Nat) : Int) := by rw [show ((n.toNat + 1 : Nat) : Int) = n + 1 by omega]; exact IntWalk.i64_in _ (by omega)
  rw [hw1]
  refine G.newNil 48 1 (elI []) rfl ?_
  refine G.block (G.loop (fun z : Nat × Nat => St.of [(0, .v (.c (.inp 805 A l.length c))), (1, .v (.c (.k (I dip)))), (2, .v (.c (.k (I n)))), (10, .v (.c (accV 48 1 z.1 z.2))), (37, .v (.c (.k (I (n.toNat + 1 : Nat))))), (38, .v (.c (.k (I z.1))))]
      [(801, .say (sb (.slice A l.length c)) (fun w => RdRow w A l.length 2 (elP l))), (805, .ro 2 l.length (elP l)), (48, accB 3 1 z.1 z.2 (elI (lvM dip n z.1)))])
    (fun z => z.1 ≤ n.toNat + 1 ∧ z.1 ≤ z.2) (fun z => n.toNat + 1 - z.1) (0, 0) ⟨Nat.zero_le _, Nat.le_refl _⟩ (St.le_of rfl ⟨⟨_, rfl, Blk.le_refl _⟩, ⟨_, rfl, Blk.le_refl _⟩, ⟨_, rfl, Blk.le_refl _⟩, trivial⟩ ⟨rfl, rfl, rfl, rfl, rfl, rfl, trivial⟩) ?_)
  rintro ⟨k, cp⟩ ⟨hk, hcp⟩
  simp only at hk hcp
  refine G.seqR tfine rfl trivial ?_
  refine G.seq (G.cond (b := decide ((k : Int) < ((n.toNat + 1 : Nat) : Int))) rfl (fun h4 => ?_) (fun h4 => ?_))
  · have h4 := of_decide_eq_true h4
    have hlt : k < n.toNat + 1 := by omega
    have hn0 : n ≠ 0 := by omega
    refine G.skip ?_
    refine G.seq (G.block ?_)
    refine G.seqR tfine rfl trivial ?_
    refine G.region_lit ?_
    refine GO.moveAny tfine rfl (.inl rfl) rfl rfl rfl ?_
    refine GO.more tfine rfl ⟨hn0, trivial⟩ ?_
    refine GO.appendAccB (n := k) (c := cp) (el := elI (lvM dip n k)) [I (lvl dip n k)] [(0, .v (.c (.inp 805 A l.length c))), (1, .v (.c (.k (I dip)))), (2, .v (.c (.k (I n)))), (37, .v (.c (.k (I (n.toNat + 1 : Nat))))), (38, .v (.c (.k (I k))))]
        [(801, .say (sb (.slice A l.length c)) (fun w => RdRow w A l.length 2 (elP l))), (805, .ro 2 l.length (elP l))] apT35 rfl rfl rfl rfl rfl rfl rfl rfl rfl rfl (fun u hu => by simp at hu; subst hu; rfl)
      (St.le_of rfl ⟨⟨_, rfl, Blk.le_refl _⟩, ⟨_, rfl, Blk.le_refl _⟩, trivial⟩ ⟨rfl, rfl, rfl, rfl, rfl, trivial⟩) (subM.fr (x := 48) ⟨rfl, (by decide : (801 : Nat) ≠ 48), rfl, (by decide : (805 : Nat) ≠ 48), trivial⟩) (fun k hk => rfl) (by unfold maxLen; omega) (by omega) fun c' hc' => ?_
    refine GO.fin tfine rfl trivial ?_
    refine G.reg tfine rfl trivial ?_
    rw [IntWalk.i64_in ((k : Int) + 1) (by omega)]
    refine ⟨(k + 1, c'), ⟨by simp only; omega, by simp only; exact hc'⟩, (by show n.toNat + 1 - (k + 1) < n.toNat + 1 - k; omega), ?_⟩
    have hsn : ∀ j, j < k + 1 → elI (lvM dip n (k + 1)) j = elN (elI (lvM dip n k)) k [I (lvl dip n k)] j := fun j hj => by
      have := elI_snoc (lvM dip n k) (lvl dip n k) j (by rw [lvM_len]; exact hj)
      rw [lvM_len] at this
      rw [lvM_succ, this]
    exact St.le_of rfl ⟨⟨_, rfl, Blk.le_refl _⟩, ⟨_, rfl, Blk.le_refl _⟩, ⟨_, rfl, rfl, rfl, Nat.le_refl _, hsn, Nat.le_refl _⟩, trivial⟩ ⟨rfl, rfl, rfl, rfl, rfl, by simp [up, I], trivial⟩
  have h4 := of_decide_eq_false h4
  have hkn : k = n.toNat + 1 := by omega
  subst hkn
  refine G.exit ?_
  obtain ⟨o, ho⟩ : ∃ o, o = lvM dip n (n.toNat + 1) := ⟨_, rfl⟩
  have hol : o.length = n.toNat + 1 := by rw [ho]; exact lvM_len _ _ _
  have hraw : rawL l dip n = addX l dip o l.length := by rw [rawL, ho]
  refine G.renArr (sz := 1) (n := n.toNat + 1) (c1 := cp) (room := (cp - (n.toNat + 1)) * 1) (e := 3) (el := elI (lvM dip n (n.toNat + 1))) 48 64 10 rfl rfl rfl rfl rfl ?_
  rw [← ho, ← hol]
  refine G.seq (G.seqR tfine rfl trivial ?_)
  refine G.block (G.loop (fun z : Nat × Nat => St.of [(1, .v (.c (.k (I dip)))), (10, .v (.c (.slc 64 0 1 (addX l dip o z.1).length z.2))), (50, .v (.c (.inp 805 A l.length c))), (51, .v (.c (.k (I l.length)))), (52, .v (.c (.k (I z.1))))]
      [(801, .say (sb (.slice A l.length c)) (fun w => RdRow w A l.length 2 (elP l))), (805, .ro 2 l.length (elP l)), (64, .arr 3 1 (addX l dip o z.1).length (elI (addX l dip o z.1)) ((z.2 - (addX l dip o z.1).length) * 1))])
    (fun z => z.1 ≤ l.length ∧ (addX l dip o z.1).length ≤ z.2) (fun z => l.length - z.1) (0, cp) ⟨Nat.zero_le _, by show o.length ≤ cp; omega⟩ (St.le_of rfl ⟨⟨_, rfl, Blk.le_refl _⟩, ⟨_, rfl, Blk.le_refl _⟩, ⟨_, rfl, Blk.le_refl _⟩, trivial⟩ ⟨rfl, rfl, rfl, rfl, rfl, trivial⟩) ?_)
  rintro ⟨k, c2⟩ ⟨hk2, hc2⟩
  simp only at hk2 hc2
  have hal := addX_len l dip o k
  refine G.seqR tfine rfl trivial ?_
  refine G.seq (G.cond (b := decide ((k : Int) < (l.length : Int))) rfl (fun h5 => ?_) (fun h5 => ?_))
  rotate_left
  · have h5 := of_decide_eq_false h5
    have hkl : k = l.length := by omega
    subst hkl
    refine G.exit ?_
    refine G.freezeArr 64 10 rfl rfl (Nat.le_refl _) fun g hg => ?_
    refine G.seqC tfine rfl trivial ?_
    refine GO.callSay 812 (fun u : Nat × Nat => .slice (some ⟨u.1, 0, none⟩) (srtL (rawL l dip n)).length u.2) (fun u => (· = u.1)) (fun u w1 => RdRow w1 (some ⟨u.1, 0, none⟩) (srtL (rawL l dip n)).length 1 (elI (srtL (rawL l dip n))) ∧ w.heap.size ≤ u.1) rfl rfl rfl rfl rfl (fun args w => Tryz.call58 args w) (fun ρ w1 hs hok => ?_) fun u => ?_
    · have := sorted_any (some ⟨g, 0, none⟩) c2 (addX l dip o l.length) w1 (hs.ok 64 _ rfl).1 (by omega) (by omega)
      refine this.mono ?_
      rintro e w' ⟨u, rfl, hb, hr, hge, hlt⟩
      rw [hraw]
      refine ⟨u, rfl, hb, ⟨hr, Nat.le_trans hs.fr.size hge⟩, fun j hj => by have hj : j = u.1 := hj; rw [hj]; exact ⟨hge, hlt⟩, ?_⟩
      rintro x1 x2 y1 y2 ⟨y3, y4⟩
      exact ⟨steady_row (cap := u.2) x1 x2 (fun k hk => y1 k (by obtain ⟨_, a, e, rfl⟩ := hk; injection e with e; rw [← e])) y2 y3, y4⟩
    refine GO.fin tfine rfl trivial ?_
    exact G.ret (retRowC tfine 812 rfl rfl)
  have h5 := of_decide_eq_true h5
  have hlt : k < l.length := by omega
  have hw3 : IntKind.i64.wrap ((k : Int) + 1) = ((k + 1 : Nat) : Int) := IntWalk.i64_in _ (by omega)
  refine G.skip ?_
  refine G.seq (G.block ?_)
  refine G.seqR tfine rfl ?_ ?_
  · first | trivial | (simp [AllP, condB]; done) | (simp only [AllP]; and_intros <;> first | trivial | decide | omega) | (simp [AllP, condB]; intros; and_intros <;> first | assumption | omega) | (simp [AllP, condB]; intros; simp_all; done)
  refine G.seqR tfine rfl trivial ?_
  obtain ⟨a, ha⟩ : ∃ a, a = addX l dip o k := ⟨_, rfl⟩
  rw [← ha] at hal hc2 ⊢
  refine G.cond (b := decide ((pt l k).1 < dip)) rfl (fun h6 => ?_) (fun h6 => ?_)
  · have hst : addX l dip o (k + 1) = a ++ [(pt l k).1] := by rw [addX, if_pos (of_decide_eq_true h6), ← ha]
    refine G.regC tfine rfl trivial ?_
    refine GO.appendOwn (x := 64) (n := a.length) (c := c2) (el := elI a) [I (pt l k).1] [(1, .v (.c (.k (I dip)))), (50, .v (.c (.inp 805 A l.length c))), (51, .v (.c (.k (I l.length)))), (52, .v (.c (.k (I k))))]
      [(801, .say (sb (.slice A l.length c)) (fun w => RdRow w A l.length 2 (elP l))), (805, .ro 2 l.length (elP l))] apT35 rfl rfl rfl rfl rfl rfl rfl rfl (Nat.le_refl _) rfl rfl rfl (fun u hu => by simp at hu; subst hu; rfl)
      (St.le_of rfl ⟨⟨_, rfl, Blk.le_refl _⟩, ⟨_, rfl, Blk.le_refl _⟩, trivial⟩ ⟨rfl, rfl, rfl, rfl, trivial⟩) (subM.fr (x := 64) ⟨rfl, (by decide : (801 : Nat) ≠ 64), rfl, (by decide : (805 : Nat) ≠ 64), trivial⟩) rfl (fun k hk => rfl) (by unfold maxLen; omega) (by omega) fun c' hc' => ?_
    refine GO.fin tfine rfl trivial ?_
    refine G.reg tfine rfl trivial ?_
    refine ⟨(k + 1, c'), ⟨hlt, ?_⟩, (by show l.length - (k + 1) < l.length - k; omega), ?_⟩
    · show (addX l dip o (k + 1)).length ≤ c'
      rw [hst]; simpa using hc'
    show St.le _ (St.of [(1, .v (.c (.k (I dip)))), (10, .v (.c (.slc 64 0 1 (addX l dip o (k + 1)).length c'))), (50, .v (.c (.inp 805 A l.length c))), (51, .v (.c (.k (I l.length)))), (52, .v (.c (.k (I (k + 1 : Nat)))))]
      [(801, .say (sb (.slice A l.length c)) (fun w => RdRow w A l.length 2 (elP l))), (805, .ro 2 l.length (elP l)), (64, .arr 3 1 (addX l dip o (k + 1)).length (elI (addX l dip o (k + 1))) ((c' - (addX l dip o (k + 1)).length) * 1))]) _
    rw [hst, show (a ++ [(pt l k).1]).length = a.length + 1 by simp]
    refine St.le_of rfl ⟨⟨_, rfl, Blk.le_refl _⟩, ⟨_, rfl, Blk.le_refl _⟩, ⟨_, rfl, rfl, rfl, Nat.le_refl _, fun j hj => (elI_snoc a _ j hj).symm, Nat.le_refl _⟩, trivial⟩ ⟨rfl, rfl, rfl, rfl, ?_, trivial⟩
    show TV.v (.c (.k (I (IntKind.i64.wrap ((k : Int) + 1))))) = _
    rw [hw3]
  · have hst : addX l dip o (k + 1) = a := by rw [addX, if_neg (of_decide_eq_false h6), ← ha]
    refine G.skip ?_
    refine G.reg tfine rfl trivial ?_
    refine ⟨(k + 1, c2), ⟨hlt, ?_⟩, (by show l.length - (k + 1) < l.length - k; omega), ?_⟩
    · show (addX l dip o (k + 1)).length ≤ c2
      rw [hst]; exact hc2
    show St.le _ (St.of [(1, .v (.c (.k (I dip)))), (10, .v (.c (.slc 64 0 1 (addX l dip o (k + 1)).length c2))), (50, .v (.c (.inp 805 A l.length c))), (51, .v (.c (.k (I l.length)))), (52, .v (.c (.k (I (k + 1 : Nat)))))]
      [(801, .say (sb (.slice A l.length c)) (fun w => RdRow w A l.length 2 (elP l))), (805, .ro 2 l.length (elP l)), (64, .arr 3 1 (addX l dip o (k + 1)).length (elI (addX l dip o (k + 1))) ((c2 - (addX l dip o (k + 1)).length) * 1))]) _
    rw [hst]
    refine St.le_of rfl ⟨⟨_, rfl, Blk.le_refl _⟩, ⟨_, rfl, Blk.le_refl _⟩, ⟨_, rfl, Blk.le_refl _⟩, trivial⟩ ⟨rfl, rfl, rfl, rfl, ?_, trivial⟩
    show TV.v (.c (.k (I (IntKind.i64.wrap ((k : Int) + 1))))) = _
    rw [hw3]
end Go.Proofs.YtphipfmidfoflaaGreat
/- Top: the wet space of standing casks. -/
set_option linter.unusedVariables false
set_option linter.unusedSimpArgs false
set_option maxRecDepth 8000
set_option maxHeartbeats 1000000
namespace Go.Proofs.YtphipfmidfoflaaGreat
open Go.Sx Go.RowKit
def stLast (l : List (Int × Int)) (lv : List Int) : Int × Int := stS l lv (lv.length - 1)
def stBet (s : ByteArray) (pos : Int) (l : List (Int × Int)) (decl : Int) (lv : List Int) : Int × Int × Int := if (stCheck s pos l decl lv != 0) = true then (0, 0, stCheck s pos l decl lv) else ((standing_space (stLast l lv).1 (stLast l lv).2).1, (standing_space (stLast l lv).1 (stLast l lv).2).2, 0)
theorem stCheck_len {s : ByteArray} {pos decl : Int} {l : List (Int × Int)} {lv : List Int} (h : stCheck s pos l decl lv = 0) : 2 ≤ lv.length ∧ lv.length ≤ 128 := by
  unfold stCheck at h
  split at h
  · rename_i h1
    rw [h] at h1
    exact absurd h1 (by decide)
  split at h
  · omega
  rename_i h2
  split at h
  · omega
  rename_i h3
  have h2 := of_decide_eq_false (Bool.eq_false_iff.2 h2)
  have h3 := of_decide_eq_false (Bool.eq_false_iff.2 h3)
  omega
theorem stBetween_any (s : ByteArray) (pos : Int) (A : Option Addr) (c : Nat) (l : List (Int × Int)) (decl : Int) (B : Option Addr) (d : Nat) (lv : List Int) (w : World) (h3 : RdRow w A l.length 2 (elP l)) (h4 : RdRow w B lv.length 1 (elI lv)) (hn : l.length ≤ 100000) (hl2 : lv.length ≤ 100000) :
    Calls Tryz.prog 32 #[.agg #[.string s, I pos, .slice A l.length c, I decl], .slice B lv.length d] w fun e w' => e = .returned (.tuple #[.agg #[I (stBet s pos l decl lv).1, I (stBet s pos l decl lv).2.1], I (stBet s pos l decl lv).2.2]) ∧ Below w.heap.size w w' := by
  refine enterSay [] [.agg [.k (.string s), .k (I pos), .k (.slice A l.length c), .k (I decl)], .c (.k (.slice B lv.length d))]
    [(801, .say (sb (.slice A l.length c)) (fun w => RdRow w A l.length 2 (elP l))), (802, .say (sb (.slice B lv.length d)) (fun w => RdRow w B lv.length 1 (elI lv)))] Tryz.func32 rfl 25 Tryz.ntmps32 rfl rfl ⟨⟨trivial, trivial, trivial, trivial, trivial⟩, trivial, trivial⟩
    ⟨⟨h3, sb_lt h3, steady_row⟩, ⟨fun h => h.elim, fun h => h.elim, trivial⟩, ⟨h4, sb_lt h4, steady_row⟩, trivial, trivial⟩ ?_
  refine G.seqR tfine rfl trivial ?_
  refine G.seq ?_
  refine G.seqC tfine rfl trivial ?_
  refine GO.callPlain (v := I (stCheck s pos l decl lv)) rfl rfl rfl rfl (fun args w => Tryz.call59 args w) (fun ρ w hs hok => stCheck_any s pos A c l decl B d lv w (hs.ok 801 _ rfl).1 (hs.ok 802 _ rfl).1 hn hl2) ?_
  refine GO.fin tfine rfl trivial ?_
  refine G.seqR tfine rfl trivial ?_
  refine G.cond (b := stCheck s pos l decl lv != 0) rfl (fun h1 => ?_) (fun h1 => ?_)
  · refine G.seqR tfine rfl trivial ?_
    refine G.ret (retK.plain tfine rfl ?_)
    rw [stBet, if_pos h1]
  have hlv := stCheck_len (by simpa using h1)
  refine G.skip ?_
  refine G.seqC tfine rfl trivial ?_
  obtain ⟨S, hS⟩ : ∃ S, S = sumL l lv (lv.length - 1) := ⟨_, rfl⟩
  have hsl : S.length = lv.length - 1 := by rw [hS]; exact sumL_len l lv (lv.length - 1)
  refine GO.callSay 812 (fun u : Option Addr × Nat => .slice u.1 S.length u.2) (fun u => sb (.slice u.1 S.length u.2)) (fun u w => RdRow w u.1 S.length 2 (elP S)) rfl rfl rfl rfl rfl (fun args w => Tryz.call60 args w) (fun ρ w hs hok => by rw [hS]; exact sums_any s pos A c l decl B d lv w (hs.ok 801 _ rfl).1 (hs.ok 802 _ rfl).1 hn (by omega) (by omega)) fun u => ?_
  refine GO.fin tfine rfl trivial ?_
  refine G.openSay 812 816 7 rfl (fun _ h => h) (fun _ h => h) rfl rfl rfl ?_
  have hw1 : IntKind.i64.wrap ((S.length : Int) - 1) = ((lv.length - 2 : Nat) : Int) := by rw [hsl, show ((lv.length - 1 : Nat) : Int) - 1 = ((lv.length - 2 : Nat) : Int) by omega]; exact IntWalk.i64_in _ (by omega)
  refine G.seqC tfine rfl ?_ ?_
  · simp only [AllP, hw1]
    and_intros <;> first | trivial | omega
  obtain ⟨Q, hQ⟩ : ∃ Q, Q = pt S (IntKind.i64.wrap ((S.length : Int) - 1)).toNat := ⟨_, rfl⟩
  have e1 : Q = stLast l lv := by
    rw [hQ, hw1, hS, Int.toNat_natCast]
    unfold pt stLast
    have : (sumL l lv (lv.length - 1))[lv.length - 2]? = some (stS l lv (lv.length - 1)) := by
      unfold sumL
      rw [List.getElem?_map, List.getElem?_range (by omega), show lv.length - 1 = lv.length - 2 + 1 by omega]
      rfl
    simp [List.getD_eq_getElem?_getD, this]
  refine GO.callPlain (v := .agg #[I (standing_space Q.1 Q.2).1, I (standing_space Q.1 Q.2).2]) rfl rfl rfl rfl (fun args w => Tryz.call61 args w) (fun ρ w hs hok => by rw [hQ]; exact standing_space_any (pt S (IntKind.i64.wrap ((S.length : Int) - 1)).toNat).1 (pt S (IntKind.i64.wrap ((S.length : Int) - 1)).toNat).2 w) ?_
  refine GO.fin tfine rfl trivial ?_
  refine G.ret (retK.plain tfine rfl ?_)
  rw [stBet, if_neg (fne h1), e1]
def stWet (s : ByteArray) (pos : Int) (l : List (Int × Int)) (decl dip n : Int) : Int × Int × Int := if (standing_stands s pos l decl != 0) = true then (0, 0, standing_stands s pos l decl) else if ((levelsM l dip n).2 != 0 || decide (dip = 0)) = true then (0, 0, (levelsM l dip n).2) else stBet s pos l decl (levelsM l dip n).1
theorem levels_len (l : List (Int × Int)) (dip n : Int) : (levelsM l dip n).1.length ≤ l.length + 65 := by
  unfold levelsM
  split
  · exact Nat.zero_le _
  split
  · exact Nat.zero_le _
  rename_i h
  have hnn : 1 ≤ n ∧ n ≤ 64 := by
    simp only [Bool.or_eq_true, decide_eq_true_eq, not_or] at h
    omega
  have h1 := compact_len (srtA (rawL l dip n))
  have h2 := srtA_len (rawL l dip n)
  have h3 : (rawL l dip n).length ≤ _ := (addX_len l dip (lvM dip n (n.toNat + 1)) l.length).2
  rw [lvM_len] at h3
  show (Lib.compact (srtA (rawL l dip n))).length ≤ _
  omega
theorem stWet_any (s : ByteArray) (pos : Int) (A : Option Addr) (c : Nat) (l : List (Int × Int)) (decl dip n : Int) (w : World) (h : RdRow w A l.length 2 (elP l)) (hn : l.length ≤ 90000) :
    Calls Tryz.prog 13 #[.agg #[.string s, I pos, .slice A l.length c, I decl], I dip, I n] w fun e w' => e = .returned (.tuple #[.agg #[I (stWet s pos l decl dip n).1, I (stWet s pos l decl dip n).2.1], I (stWet s pos l decl dip n).2.2]) ∧ Below w.heap.size w w' := by
  refine enterSay [] [.agg [.k (.string s), .k (I pos), .k (.slice A l.length c), .k (I decl)], .c (.k (I dip)), .c (.k (I n))] [(801, .say (sb (.slice A l.length c)) (fun w => RdRow w A l.length 2 (elP l)))] Tryz.func13 rfl 38 Tryz.ntmps13 rfl rfl ⟨⟨trivial, trivial, trivial, trivial, trivial⟩, trivial, trivial, trivial⟩ ⟨⟨h, sb_lt h, steady_row⟩, trivial, trivial⟩ ?_
  refine G.seqR tfine rfl trivial ?_
  refine G.seq ?_
  refine G.seqC tfine rfl trivial ?_
  refine GO.callPlain (v := I (standing_stands s pos l decl)) rfl rfl rfl rfl (fun args w => Tryz.call30 args w) (fun ρ w hs hok => standing_stands_any s pos A c l decl w (hs.ok 801 _ rfl).1 (by omega)) ?_
  refine GO.fin tfine rfl trivial ?_
  refine G.seqR tfine rfl trivial ?_
  refine G.cond (b := standing_stands s pos l decl != 0) rfl (fun h1 => ?_) (fun h1 => ?_)
  · refine G.seqR tfine rfl trivial ?_
    refine G.ret (retK.plain tfine rfl ?_)
    rw [stWet, if_pos h1]
  refine G.skip ?_
  refine G.seqC tfine rfl trivial ?_
  obtain ⟨p, hp⟩ : ∃ p, p = (levelsM l dip n).1 := ⟨_, rfl⟩
  obtain ⟨pe, hpe⟩ : ∃ pe, pe = (levelsM l dip n).2 := ⟨_, rfl⟩
  have hpl : p.length ≤ l.length + 65 := by rw [hp]; exact levels_len l dip n
  refine GO.callSay 812 (fun u : Option Addr × Nat => .tuple #[.slice u.1 p.length u.2, I pe]) (fun u => sb (.slice u.1 p.length u.2)) (fun u w => RdRow w u.1 p.length 1 (elI p)) rfl rfl rfl rfl rfl (fun args w => Tryz.call31 args w) (fun ρ w hs hok => ?_) fun u => ?_
  · have := levels_any A c l dip n w (hs.ok 801 _ rfl).1 (by omega)
    rw [hp, hpe]
    exact this
  refine GO.fin tfine rfl trivial ?_
  refine G.seq ?_
  refine G.seqR tfine rfl ?_ ?_
  · first | trivial | (simp [AllP, condB]; done) | (simp only [AllP]; and_intros <;> first | trivial | decide | omega) | (simp [AllP, condB]; intros; and_intros <;> first | assumption | omega) | (simp [AllP, condB]; intros; simp_all; done)
  refine G.cond (b := pe != 0 || decide (dip = 0)) rfl (fun h3 => ?_) (fun h3 => ?_)
  · refine G.seqR tfine rfl trivial ?_
    refine G.ret (retK.plain tfine rfl ?_)
    rw [stWet, if_neg (fne h1), ← hpe, if_pos h3]
  refine G.skip ?_
  refine G.seqC tfine rfl trivial ?_
  refine GO.callPlain (v := .tuple #[.agg #[I (stBet s pos l decl p).1, I (stBet s pos l decl p).2.1], I (stBet s pos l decl p).2.2]) rfl rfl rfl rfl (fun args w => Tryz.call32 args w) (fun ρ w hs hok => stBetween_any s pos A c l decl u.1 u.2 p w (hs.ok 801 _ rfl).1 (hs.ok 812 _ rfl).1 (by omega) (by omega)) ?_
  refine GO.fin tfine rfl trivial ?_
  refine G.ret (retK.plain tfine rfl ?_)
  rw [stWet, if_neg (fne h1), ← hpe, if_neg (fne h3), ← hp]
end Go.Proofs.YtphipfmidfoflaaGreat
/- Sums of strips of a circle against multiples of the square of its radius: plain Lean, no program. -/
set_option maxRecDepth 8000
namespace Go.Cy
/-! ### A table: half chords from above and a potential -/
def C (j : Nat) : Int := ([1000, 1000, 1000, 999, 997, 995, 993, 991, 988, 984, 980, 976, 971, 966, 960, 954, 948, 941, 933, 925, 917, 908, 898, 888, 878, 867, 855, 842, 829, 815, 800, 785, 769, 752, 734, 715, 694, 673, 650, 626, 600, 573, 543, 511, 475, 436, 392, 342, 280, 199] : List Int).getD j 0
def p (j : Nat) : Int := ([0, 936, 1936, 2936, 3932, 4921, 5906, 6887, 7864, 8828, 9778, 10743, 11704, 12655, 13596, 14524, 15456, 16383, 17296, 18197, 19094, 19987, 20864, 21725, 22587, 23435, 24268, 25088, 25897, 26691, 27469, 28233, 28982, 29712, 30425, 31120, 31793, 32444, 33075, 33680, 34263, 34816, 35345, 35838, 36303, 36724, 37111, 37444, 37731, 37947, 38082] : List Int).getD j 0
def c (j : Nat) : Int := ([999, 999, 998, 996, 994, 992, 990, 987, 983, 979, 975, 970, 965, 960, 953, 947, 940, 932, 924, 916, 907, 897, 887, 877, 866, 854, 841, 828, 814, 800, 784, 768, 751, 733, 714, 693, 672, 649, 625, 600, 572, 542, 510, 474, 435, 391, 341, 280, 198, 0] : List Int).getD j 0
def q (j : Nat) : Int := ([0, 1066, 2065, 3064, 4063, 5062, 6061, 7060, 8059, 9058, 10057, 11056, 12055, 13041, 14020, 14999, 15973, 16943, 17899, 18852, 19800, 20738, 21662, 22583, 23495, 24390, 25277, 26158, 27019, 27867, 28708, 29528, 30334, 31127, 31899, 32654, 33393, 34107, 34800, 35472, 36117, 36739, 37328, 37890, 38415, 38905, 39352, 39754, 40101, 40366, 40433] : List Int).getD j 0
def okL : Bool := (List.range 50).all fun j => decide (0 ≤ C j ∧ 1000000 * (2500 - (j : Int) * j) ≤ C j * C j * 2500 ∧ p j ≤ p 50) && (List.range (j + 1)).all fun i => decide (((j : Int) - i) * C j ≤ p j - p i + 64 ∧ ((j : Int) + 1 - i) * C j ≤ p (j + 1) - p i + 64)
def okH : Bool := (List.range 50).all fun i => decide (0 ≤ c i ∧ c i * c i * 2500 ≤ 1000000 * (2500 - ((i : Int) + 1) * (i + 1))) && (List.range 51).all fun j => (decide (j < i) || decide (q j - q i - 67 ≤ ((j : Int) - i) * c i)) && (decide (j < i + 1) || decide (q j - q (i + 1) - 67 ≤ ((j : Int) - i - 1) * c i))
theorem okL_true : okL = true := by decide +kernel
theorem okH_true : okH = true := by decide +kernel
theorem okL_at {j : Nat} (hj : j < 50) : (0 ≤ C j ∧ 1000000 * (2500 - (j : Int) * j) ≤ C j * C j * 2500 ∧ p j ≤ p 50) ∧ ∀ i, i ≤ j → ((j : Int) - i) * C j ≤ p j - p i + 64 ∧ ((j : Int) + 1 - i) * C j ≤ p (j + 1) - p i + 64 := by
  have h := okL_true
  unfold okL at h
  rw [List.all_eq_true] at h
  have h := h j (List.mem_range.2 hj)
  rw [Bool.and_eq_true, List.all_eq_true] at h
  exact ⟨of_decide_eq_true h.1, fun i hi => of_decide_eq_true (h.2 i (List.mem_range.2 (by omega)))⟩
theorem okH_at {i : Nat} (hi : i < 50) : (0 ≤ c i ∧ c i * c i * 2500 ≤ 1000000 * (2500 - ((i : Int) + 1) * (i + 1))) ∧ ∀ j, j ≤ 50 → (i ≤ j → q j - q i - 67 ≤ ((j : Int) - i) * c i) ∧ (i + 1 ≤ j → q j - q (i + 1) - 67 ≤ ((j : Int) - i - 1) * c i) := by
  have h := okH_true
  unfold okH at h
  rw [List.all_eq_true] at h
  have h := h i (List.mem_range.2 hi)
  rw [Bool.and_eq_true, List.all_eq_true] at h
  refine ⟨of_decide_eq_true h.1, fun j hj => ?_⟩
  have h := h.2 j (List.mem_range.2 (by omega))
  rw [Bool.and_eq_true, Bool.or_eq_true, Bool.or_eq_true] at h
  refine ⟨fun hij => ?_, fun hij => ?_⟩
  · rcases h.1 with h | h
    · have := of_decide_eq_true h; omega
    · exact of_decide_eq_true h
  · rcases h.2 with h | h
    · have := of_decide_eq_true h; omega
    · exact of_decide_eq_true h
/-! ### Linear functions on a square -/
theorem corners {s r t A B D : Int} (hr : 0 ≤ r) (hrs : r ≤ s) (ht : 0 ≤ t) (hts : t ≤ s) (h0 : A ≤ 0) (h1 : A + B ≤ 0) (h2 : A + D ≤ 0) (h3 : A + B + D ≤ 0) : A * s + B * r + D * t ≤ 0 := by
  by_cases h : t ≤ r
  · have e : A * s + B * r + D * t = A * (s - r) + (A + B) * (r - t) + (A + B + D) * t := by grind
    have a := Int.mul_nonpos_of_nonpos_of_nonneg h0 (show 0 ≤ s - r by omega)
    have b := Int.mul_nonpos_of_nonpos_of_nonneg h1 (show 0 ≤ r - t by omega)
    have d := Int.mul_nonpos_of_nonpos_of_nonneg h3 ht
    omega
  · have e : A * s + B * r + D * t = A * (s - t) + (A + D) * (t - r) + (A + B + D) * r := by grind
    have a := Int.mul_nonpos_of_nonpos_of_nonneg h0 (show 0 ≤ s - t by omega)
    have b := Int.mul_nonpos_of_nonpos_of_nonneg h2 (show 0 ≤ t - r by omega)
    have d := Int.mul_nonpos_of_nonpos_of_nonneg h3 hr
    omega
/-- The cell of a place, and the rest. -/
def cell (s v : Nat) : Nat := v * 50 / s
theorem cell_spec {s v : Nat} (h : v < s) : cell s v < 50 ∧ (cell s v : Int) * s ≤ v * 50 ∧ (v : Int) * 50 - cell s v * s < s := by
  have hs : 0 < s := by omega
  have h1 : cell s v * s ≤ v * 50 := Nat.div_mul_le_self _ _
  have h2 := Nat.lt_div_mul_add (a := v * 50) hs
  have h3 : cell s v < 50 := by
    unfold cell
    rw [Nat.div_lt_iff_lt_mul hs, Nat.mul_comm]
    omega
  refine ⟨h3, by exact_mod_cast h1, ?_⟩
  have h4 : v * 50 < cell s v * s + s := h2
  have : ((v * 50 : Nat) : Int) < ((cell s v * s + s : Nat) : Int) := by exact_mod_cast h4
  push_cast at this
  omega
/-- A potential at a place: linear on each cell. -/
def pot (f : Nat → Int) (s v : Nat) : Int := if s ≤ v then f 50 * s else f (cell s v) * s + (f (cell s v + 1) - f (cell s v)) * ((v : Int) * 50 - cell s v * s)
theorem pot_in {f : Nat → Int} {s v : Nat} (h : v < s) : pot f s v = f (cell s v) * s + (f (cell s v + 1) - f (cell s v)) * ((v : Int) * 50 - cell s v * s) := if_neg (by omega)
theorem pot_out {f : Nat → Int} {s v : Nat} (h : s ≤ v) : pot f s v = f 50 * s := if_pos h
theorem pot_zero {f : Nat → Int} (h0 : f 0 = 0) {s : Nat} : pot f s 0 = 0 := by
  by_cases h : s ≤ 0
  · have : s = 0 := by omega
    rw [pot_out h, this]; simp
  · rw [pot_in (by omega)]
    have : cell s 0 = 0 := by simp [cell]
    rw [this, h0]; simp
theorem cell_mono {s u v : Nat} (h : u ≤ v) : cell s u ≤ cell s v := Nat.div_le_div_right (Nat.mul_le_mul_right _ h)
/-- The lesser side. -/
theorem low_lin {s u v : Nat} (hv : v < s) (huv : u ≤ v) : ((v : Int) - u) * 50 * C (cell s v) ≤ pot p s v - pot p s u + 64 * s := by
  obtain ⟨j1, j2, j3⟩ := cell_spec hv
  obtain ⟨i1, i2, i3⟩ := cell_spec (show u < s by omega)
  have hij := cell_mono (s := s) huv
  rw [pot_in hv, pot_in (show u < s by omega)]
  obtain ⟨_, hk⟩ := okL_at j1
  generalize cell s v = j at *
  generalize cell s u = i at *
  obtain ⟨r, hr⟩ : ∃ r, r = (v : Int) * 50 - j * s := ⟨_, rfl⟩
  obtain ⟨t, ht⟩ : ∃ t, t = (u : Int) * 50 - i * s := ⟨_, rfl⟩
  rw [← hr, ← ht]
  have hvu : ((v : Int) - u) * 50 = ((j : Int) - i) * s + r - t := by rw [hr, ht]; grind
  rw [hvu]
  by_cases e : i = j
  · subst e
    have a := (hk i (Nat.le_refl _)).2
    have e1 : ((i : Int) - i) * s + r - t = r - t := by rw [Int.sub_self, Int.zero_mul]; omega
    rw [e1]
    have a : C i - (p (i + 1) - p i) ≤ 64 := by
      have : (i : Int) + 1 - i = 1 := by omega
      rw [this, Int.one_mul] at a
      omega
    have hrt : 0 ≤ r - t := by
      rw [hr, ht]; omega
    have m1 := Int.mul_le_mul_of_nonneg_right a hrt
    have : 64 * (r - t) ≤ 64 * (s : Int) := by omega
    have e2 : (r - t) * C i - (p i * ↑s + (p (i + 1) - p i) * r - (p i * ↑s + (p (i + 1) - p i) * t)) = (C i - (p (i + 1) - p i)) * (r - t) := by grind
    omega
  · have hlt : i < j := by omega
    obtain ⟨a1, a2⟩ := hk i (by omega)
    obtain ⟨b1, b2⟩ := hk (i + 1) (by omega)
    push_cast at b1 b2
    have k := corners (s := s) (r := r) (t := t) (A := ((j : Int) - i) * C j - p j + p i - 64) (B := C j - (p (j + 1) - p j)) (D := -(C j) + (p (i + 1) - p i)) (by omega) (by omega) (by omega) (by omega) (by omega)
      (by have : ((j : Int) + 1 - i) * C j = ((j : Int) - i) * C j + C j := by grind
          omega)
      (by have : ((j : Int) - (i + 1)) * C j = ((j : Int) - i) * C j - C j := by grind
          omega)
      (by have : ((j : Int) + 1 - (i + 1)) * C j = ((j : Int) - i) * C j := by grind
          omega)
    have e2 : (((j : Int) - i) * s + r - t) * C j - (p j * ↑s + (p (j + 1) - p j) * r - (p i * ↑s + (p (i + 1) - p i) * t)) - 64 * s = (((j : Int) - i) * C j - p j + p i - 64) * s + (C j - (p (j + 1) - p j)) * r + (-(C j) + (p (i + 1) - p i)) * t := by grind
    omega
/-- The greater side. -/
theorem high_lin {s u v : Nat} (hu : u < s) (hv : v ≤ s) (huv : u ≤ v) : pot q s v - pot q s u - 67 * s ≤ ((v : Int) - u) * 50 * c (cell s u) := by
  obtain ⟨i1, i2, i3⟩ := cell_spec hu
  obtain ⟨_, hk⟩ := okH_at i1
  rw [pot_in hu]
  by_cases hvs : v < s
  · obtain ⟨j1, j2, j3⟩ := cell_spec hvs
    have hij := cell_mono (s := s) huv
    rw [pot_in hvs]
    generalize cell s v = j at *
    generalize cell s u = i at *
    obtain ⟨r, hr⟩ : ∃ r, r = (v : Int) * 50 - j * s := ⟨_, rfl⟩
    obtain ⟨t, ht⟩ : ∃ t, t = (u : Int) * 50 - i * s := ⟨_, rfl⟩
    rw [← hr, ← ht]
    have hvu : ((v : Int) - u) * 50 = ((j : Int) - i) * s + r - t := by rw [hr, ht]; grind
    rw [hvu]
    by_cases e : i = j
    · subst e
      have a := (hk (i + 1) (by omega)).1 (by omega)
      have e1 : ((i : Int) - i) * s + r - t = r - t := by rw [Int.sub_self, Int.zero_mul]; omega
      rw [e1]
      have a : (q (i + 1) - q i) - c i ≤ 67 := by
        push_cast at a
        have : (i : Int) + 1 - i = 1 := by omega
        rw [this, Int.one_mul] at a
        omega
      have hrt : 0 ≤ r - t := by
        rw [hr, ht]; omega
      have m1 := Int.mul_le_mul_of_nonneg_right a hrt
      have : 67 * (r - t) ≤ 67 * (s : Int) := by omega
      have e2 : (q i * ↑s + (q (i + 1) - q i) * r - (q i * ↑s + (q (i + 1) - q i) * t)) - (r - t) * c i = ((q (i + 1) - q i) - c i) * (r - t) := by grind
      omega
    · have hlt : i < j := by omega
      have a1 := (hk j (by omega)).1 (by omega)
      have a2 := (hk (j + 1) (by omega)).1 (by omega)
      have b1 := (hk j (by omega)).2 (by omega)
      have b2 := (hk (j + 1) (by omega)).2 (by omega)
      push_cast at a2 b2
      have k := corners (s := s) (r := r) (t := t) (A := q j - q i - 67 - ((j : Int) - i) * c i) (B := (q (j + 1) - q j) - c i) (D := c i - (q (i + 1) - q i)) (by omega) (by omega) (by omega) (by omega) (by omega)
        (by have : ((j : Int) + 1 - i) * c i = ((j : Int) - i) * c i + c i := by grind
            omega)
        (by have : ((j : Int) - i - 1) * c i = ((j : Int) - i) * c i - c i := by grind
            omega)
        (by have : ((j : Int) + 1 - i - 1) * c i = ((j : Int) - i) * c i := by grind
            omega)
      have e2 : (q j * ↑s + (q (j + 1) - q j) * r - (q i * ↑s + (q (i + 1) - q i) * t)) - 67 * s - (((j : Int) - i) * s + r - t) * c i = (q j - q i - 67 - ((j : Int) - i) * c i) * s + ((q (j + 1) - q j) - c i) * r + (c i - (q (i + 1) - q i)) * t := by grind
      omega
  · have hve : v = s := by omega
    rw [pot_out (by omega)]
    generalize cell s u = i at *
    obtain ⟨t, ht⟩ : ∃ t, t = (u : Int) * 50 - i * s := ⟨_, rfl⟩
    rw [← ht]
    have hvu : ((v : Int) - u) * 50 = (50 - (i : Int)) * s - t := by rw [ht, hve]; grind
    rw [hvu]
    have a1 := (hk 50 (by omega)).1 (by omega)
    have b1 := (hk 50 (by omega)).2 (by omega)
    have k := corners (s := s) (r := 0) (t := t) (A := q 50 - q i - 67 - (50 - (i : Int)) * c i) (B := 0) (D := c i - (q (i + 1) - q i)) (by omega) (by omega) (by omega) (by omega) (by push_cast at a1; omega) (by push_cast at a1; omega)
      (by push_cast at b1
          have : ((50 : Int) - i - 1) * c i = (50 - (i : Int)) * c i - c i := by grind
          omega)
      (by push_cast at b1
          have : ((50 : Int) - i - 1) * c i = (50 - (i : Int)) * c i - c i := by grind
          omega)
    have e2 : q 50 * ↑s - (q i * ↑s + (q (i + 1) - q i) * t) - 67 * s - ((50 - (i : Int)) * s - t) * c i = (q 50 - q i - 67 - (50 - (i : Int)) * c i) * s + 0 * 0 + (c i - (q (i + 1) - q i)) * t := by grind
    omega
/-! ### Half chords -/
theorem sq_le {a b : Int} (hb : 0 ≤ b) (h : a * a ≤ b * b) : a ≤ b := by
  apply Classical.byContradiction
  intro hn
  have h1 : b * b ≤ b * a := Int.mul_le_mul_of_nonneg_left (by omega) hb
  have h2 : b * a < a * a := Int.mul_lt_mul_of_pos_right (by omega) (by omega)
  omega
theorem half_low {s v : Nat} {x : Int} (hv : v < s) (hx : x * x ≤ (s : Int) * s - v * v) : x * 1000 ≤ s * C (cell s v) := by
  obtain ⟨j1, j2, j3⟩ := cell_spec hv
  obtain ⟨⟨h0, h1, _⟩, _⟩ := okL_at j1
  generalize cell s v = j at *
  have hs : (0 : Int) ≤ s := by omega
  have hn : 0 ≤ (s : Int) * C j := Int.mul_nonneg hs h0
  apply sq_le hn
  have a1 : (j : Int) * s * ((j : Int) * s) ≤ (v : Int) * 50 * (v * 50) := Int.mul_le_mul j2 j2 (Int.mul_nonneg (by omega) hs) (by omega)
  have a2 : (s : Int) * s * (1000000 * (2500 - (j : Int) * j)) ≤ s * s * (C j * C j * 2500) := Int.mul_le_mul_of_nonneg_left h1 (Int.mul_nonneg hs hs)
  have e1 : (s : Int) * s * (1000000 * (2500 - (j : Int) * j)) = 1000000 * (2500 * (s * s)) - 1000000 * ((j : Int) * s * (j * s)) := by grind
  have e2 : (s : Int) * s * (C j * C j * 2500) = 2500 * (s * C j * (s * C j)) := by grind
  have e3 : (v : Int) * 50 * (v * 50) = 2500 * (v * v) := by grind
  have e4 : x * 1000 * (x * 1000) = 1000000 * (x * x) := by grind
  rw [e4]
  rw [e1, e2] at a2
  rw [e3] at a1
  omega
theorem half_high {s u : Nat} {x : Int} (hu : u < s) (hx0 : 0 ≤ x) (hx : (s : Int) * s - u * u ≤ x * x) : s * c (cell s u) ≤ x * 1000 := by
  obtain ⟨i1, i2, i3⟩ := cell_spec hu
  obtain ⟨⟨h0, h1⟩, _⟩ := okH_at i1
  generalize cell s u = i at *
  have hs : (0 : Int) ≤ s := by omega
  apply sq_le (by omega)
  have u50 : (u : Int) * 50 ≤ ((i : Int) + 1) * s := by
    have : ((i : Int) + 1) * s = i * s + s := by grind
    omega
  have a1 : (u : Int) * 50 * (u * 50) ≤ ((i : Int) + 1) * s * (((i : Int) + 1) * s) := Int.mul_le_mul u50 u50 (by omega) (Int.mul_nonneg (by omega) hs)
  have a2 : (s : Int) * s * (c i * c i * 2500) ≤ s * s * (1000000 * (2500 - ((i : Int) + 1) * (i + 1))) := Int.mul_le_mul_of_nonneg_left h1 (Int.mul_nonneg hs hs)
  have e1 : (s : Int) * s * (1000000 * (2500 - ((i : Int) + 1) * (i + 1))) = 1000000 * (2500 * (s * s)) - 1000000 * (((i : Int) + 1) * s * (((i : Int) + 1) * s)) := by grind
  have e2 : (s : Int) * s * (c i * c i * 2500) = 2500 * (s * c i * (s * c i)) := by grind
  have e3 : (u : Int) * 50 * (u * 50) = 2500 * (u * u) := by grind
  have e4 : x * 1000 * (x * 1000) = 1000000 * (x * x) := by grind
  rw [e4]
  rw [e1, e2] at a2
  rw [e3] at a1
  omega
end Go.Cy
/- Sums of strips between heights: plain Lean, no program. -/
set_option maxRecDepth 8000
namespace Go.Cy
/-- The potentials with the sign of the place. -/
def sL (s : Nat) (d : Int) : Int := if d ≤ 0 then -(pot p s (-d).toNat) else pot p s d.toNat + 64 * s
def sH (s : Nat) (d : Int) : Int := if d ≤ 0 then -(pot q s (-d).toNat) else pot q s d.toNat - 67 * s
/-- x is at most the half chord at a place; nothing outside. -/
def Lo (s : Nat) (d x : Int) : Prop := 0 ≤ x ∧ (d.natAbs ≤ s → x * x ≤ (s : Int) * s - d * d) ∧ (s < d.natAbs → x = 0)
/-- x is at least the half chord at a place. -/
def Hi (s : Nat) (d x : Int) : Prop := 0 ≤ x ∧ (d.natAbs ≤ s → (s : Int) * s - d * d ≤ x * x)
theorem pot_le {s u : Nat} : pot p s u ≤ p 50 * s := by
  by_cases h : s ≤ u
  · rw [pot_out h]; exact Int.le_refl _
  · rw [pot_in (by omega)]
    obtain ⟨j1, j2, j3⟩ := cell_spec (show u < s by omega)
    generalize cell s u = j at *
    obtain ⟨t, ht⟩ : ∃ t, t = (u : Int) * 50 - j * s := ⟨_, rfl⟩
    rw [← ht]
    have a := (okL_at j1).1.2.2
    have b : p (j + 1) ≤ p 50 := by
      rcases Nat.lt_or_ge (j + 1) 50 with h | h
      · exact (okL_at h).1.2.2
      · have : j + 1 = 50 := by omega
        rw [this]; exact Int.le_refl _
    have m1 := Int.mul_le_mul_of_nonneg_right a (show 0 ≤ (s : Int) - t by omega)
    have m2 := Int.mul_le_mul_of_nonneg_right b (show 0 ≤ t by omega)
    have e1 : p j * s + (p (j + 1) - p j) * t = p j * (s - t) + p (j + 1) * t := by grind
    have e2 : p 50 * ((s : Int) - t) + p 50 * t = p 50 * s := by grind
    omega
/-- One side of the centre. -/
theorem half_lo {s u v : Nat} {x : Int} (huv : u ≤ v) (hx : Lo s v x) : ((v : Int) - u) * x * 50000 ≤ s * (pot p s v - pot p s u) + 64 * (s * s) := by
  obtain ⟨x0, x1, x2⟩ := hx
  have hs : (0 : Int) ≤ s := by omega
  rcases Nat.lt_or_ge v s with h | h
  · have a := half_low h (x1 (by omega))
    have b := low_lin h huv
    have m1 := Int.mul_le_mul_of_nonneg_left a (show 0 ≤ ((v : Int) - u) * 50 by omega)
    have m2 := Int.mul_le_mul_of_nonneg_left b hs
    have e1 : ((v : Int) - u) * 50 * (x * 1000) = ((v : Int) - u) * x * 50000 := by grind
    have e2 : ((v : Int) - u) * 50 * (s * C (cell s v)) = s * (((v : Int) - u) * 50 * C (cell s v)) := by grind
    have e3 : (s : Int) * (pot p s v - pot p s u + 64 * s) = s * (pot p s v - pot p s u) + 64 * (s * s) := by grind
    omega
  · have hx : x = 0 := by
      rcases Nat.lt_or_ge s v with g | g
      · exact x2 (by omega)
      · have hv : (v : Int) = s := by omega
        have := x1 (by omega)
        rw [hv] at this
        have h0 := Int.mul_self_le_mul_self x0 (Int.le_refl x)
        rcases Int.lt_or_eq_of_le x0 with k | k
        · have := Int.mul_pos k k; omega
        · exact k.symm
    rw [hx, Int.mul_zero, Int.zero_mul, pot_out h]
    have := pot_le (s := s) (u := u)
    have m := Int.mul_nonneg hs (show 0 ≤ p 50 * s - pot p s u by omega)
    have := Int.mul_nonneg hs hs
    omega
theorem half_hi {s u v : Nat} {x : Int} (huv : u ≤ v) (hx : Hi s u x) : s * (pot q s v - pot q s u) ≤ ((v : Int) - u) * x * 50000 + 67 * (s * s) := by
  obtain ⟨x0, x1⟩ := hx
  have hs : (0 : Int) ≤ s := by omega
  rcases Nat.lt_or_ge u s with h | h
  · have a := half_high h x0 (x1 (by omega))
    have b := high_lin h (show min v s ≤ s by omega) (show u ≤ min v s by omega)
    have hp : pot q s v = pot q s (min v s) := by
      rcases Nat.lt_or_ge v s with k | k
      · rw [show min v s = v by omega]
      · rw [pot_out k, pot_out (show s ≤ min v s by omega)]
    rw [hp]
    have m1 := Int.mul_le_mul_of_nonneg_left a (show 0 ≤ (((min v s : Nat) : Int) - u) * 50 by omega)
    have m2 := Int.mul_le_mul_of_nonneg_left b hs
    have m3 := Int.mul_le_mul_of_nonneg_right (show ((min v s : Nat) : Int) - u ≤ (v : Int) - u by omega) x0
    have e1 : (((min v s : Nat) : Int) - u) * 50 * (x * 1000) = (((min v s : Nat) : Int) - u) * x * 50000 := by grind
    have e2 : (((min v s : Nat) : Int) - u) * 50 * (s * c (cell s u)) = s * ((((min v s : Nat) : Int) - u) * 50 * c (cell s u)) := by grind
    have e3 : (s : Int) * (pot q s (min v s) - pot q s u - 67 * s) = s * (pot q s (min v s) - pot q s u) - 67 * (s * s) := by grind
    omega
  · rw [pot_out h, pot_out (show s ≤ v by omega), Int.sub_self, Int.mul_zero]
    have := Int.mul_nonneg hs hs
    have := Int.mul_nonneg (show 0 ≤ (v : Int) - u by omega) x0
    omega
theorem toN {d : Int} (h : 0 ≤ d) : ((d.toNat : Nat) : Int) = d := Int.toNat_of_nonneg h
/-- One strip. -/
theorem strip_lo {s : Nat} {a b x y : Int} (hab : a ≤ b) (hx : Lo s a x) (hy : Lo s b y) : (b - a) * min x y * 50000 ≤ s * (sL s b - sL s a) + 64 * (s * s) := by
  have hs : (0 : Int) ≤ s := by omega
  have mx : min x y ≤ x := Int.min_le_left _ _
  have my : min x y ≤ y := Int.min_le_right _ _
  unfold sL
  by_cases ha : a ≤ 0
  · by_cases hb : b ≤ 0
    · rw [if_pos ha, if_pos hb]
      have h := half_lo (s := s) (u := (-b).toNat) (v := (-a).toNat) (x := x) (by omega) (by
        obtain ⟨h0, h1, h2⟩ := hx
        rw [toN (show 0 ≤ -a by omega)]
        exact ⟨h0, fun k => by have := h1 (by omega); rw [Int.neg_mul_neg]; exact this, fun k => h2 (by omega)⟩)
      rw [toN (show 0 ≤ -a by omega), toN (show 0 ≤ -b by omega)] at h
      have m := Int.mul_le_mul_of_nonneg_left mx (show 0 ≤ b - a by omega)
      have e : (-a - -b) * x = (b - a) * x := by grind
      rw [e] at h
      have e2 : -pot p s (-b).toNat - -pot p s (-a).toNat = pot p s (-a).toNat - pot p s (-b).toNat := by omega
      rw [e2]
      omega
    · rw [if_pos ha, if_neg hb]
      have h1 := half_lo (s := s) (u := 0) (v := (-a).toNat) (x := x) (by omega) (by
        obtain ⟨h0, h1, h2⟩ := hx
        rw [toN (show 0 ≤ -a by omega)]
        exact ⟨h0, fun k => by have := h1 (by omega); rw [Int.neg_mul_neg]; exact this, fun k => h2 (by omega)⟩)
      have h2 := half_lo (s := s) (u := 0) (v := b.toNat) (x := y) (by omega) (by
        rw [toN (show 0 ≤ b by omega)]; exact hy)
      rw [toN (show 0 ≤ -a by omega), pot_zero (f := p) rfl] at h1
      rw [toN (show 0 ≤ b by omega), pot_zero (f := p) rfl] at h2
      have m1 := Int.mul_le_mul_of_nonneg_left mx (show 0 ≤ -a by omega)
      have m2 := Int.mul_le_mul_of_nonneg_left my (show 0 ≤ b by omega)
      have e : (b - a) * min x y = -a * min x y + b * min x y := by grind
      have e1 : (-a - ((0 : Nat) : Int)) * x = -a * x := by simp
      have e2 : (b - ((0 : Nat) : Int)) * y = b * y := by simp
      rw [e1] at h1
      rw [e2] at h2
      have e3 : (s : Int) * (pot p s b.toNat + 64 * s - -pot p s (-a).toNat) = s * (pot p s (-a).toNat - 0) + s * (pot p s b.toNat - 0) + 64 * (s * s) := by grind
      rw [e, e3]
      omega
  · rw [if_neg ha, if_neg (by omega)]
    have h := half_lo (s := s) (u := a.toNat) (v := b.toNat) (x := y) (by omega) (by
      rw [toN (show 0 ≤ b by omega)]; exact hy)
    rw [toN (show 0 ≤ a by omega), toN (show 0 ≤ b by omega)] at h
    have m := Int.mul_le_mul_of_nonneg_left my (show 0 ≤ b - a by omega)
    have e2 : pot p s b.toNat + 64 * ↑s - (pot p s a.toNat + 64 * ↑s) = pot p s b.toNat - pot p s a.toNat := by omega
    rw [e2]
    omega
/-- g is at least what the strip's greater half chord is: the radius, if the centre lies in it. -/
theorem strip_hi {s : Nat} {a b x y g : Int} (hab : a ≤ b) (hx : Hi s a x) (hy : Hi s b y) (hg : if a ≤ 0 ∧ 0 ≤ b then g = s else x ≤ g ∧ y ≤ g) : s * (sH s b - sH s a) ≤ (b - a) * g * 50000 + 67 * (s * s) := by
  have hs : (0 : Int) ≤ s := by omega
  have hz : Hi s ((0 : Nat) : Int) s := ⟨hs, fun _ => by simp⟩
  unfold sH
  by_cases ha : a ≤ 0
  · by_cases hb : b ≤ 0
    · rw [if_pos ha, if_pos hb]
      by_cases h0 : b = 0
      · rw [if_pos ⟨ha, by omega⟩] at hg
        have h := half_hi (s := s) (u := 0) (v := (-a).toNat) (x := s) (by omega) hz
        rw [toN (show 0 ≤ -a by omega), pot_zero (f := q) rfl] at h
        have e1 : (-a - ((0 : Nat) : Int)) * s = (b - a) * g := by rw [hg, h0]; simp
        rw [e1] at h
        have e2 : -pot q s (-b).toNat - -pot q s (-a).toNat = pot q s (-a).toNat - 0 := by
          rw [h0, show (-(0 : Int)).toNat = 0 from rfl, pot_zero (f := q) rfl]; omega
        rw [e2]
        exact h
      · rw [if_neg (by omega)] at hg
        have h := half_hi (s := s) (u := (-b).toNat) (v := (-a).toNat) (x := y) (by omega) (by
          obtain ⟨h0, h1⟩ := hy
          rw [toN (show 0 ≤ -b by omega)]
          exact ⟨h0, fun k => by have := h1 (by omega); rw [Int.neg_mul_neg]; exact this⟩)
        rw [toN (show 0 ≤ -a by omega), toN (show 0 ≤ -b by omega)] at h
        have m := Int.mul_le_mul_of_nonneg_left hg.2 (show 0 ≤ b - a by omega)
        have e : (-a - -b) * y = (b - a) * y := by grind
        rw [e] at h
        have e2 : -pot q s (-b).toNat - -pot q s (-a).toNat = pot q s (-a).toNat - pot q s (-b).toNat := by omega
        rw [e2]
        omega
    · rw [if_pos ha, if_neg hb]
      rw [if_pos ⟨ha, by omega⟩] at hg
      have h1 := half_hi (s := s) (u := 0) (v := (-a).toNat) (x := s) (by omega) hz
      have h2 := half_hi (s := s) (u := 0) (v := b.toNat) (x := s) (by omega) hz
      rw [toN (show 0 ≤ -a by omega), pot_zero (f := q) rfl] at h1
      rw [toN (show 0 ≤ b by omega), pot_zero (f := q) rfl] at h2
      have e1 : (-a - ((0 : Nat) : Int)) * s = -a * s := by simp
      have e2 : (b - ((0 : Nat) : Int)) * s = b * s := by simp
      rw [e1] at h1
      rw [e2] at h2
      have e : (b - a) * g = -a * s + b * s := by rw [hg]; grind
      have e3 : (s : Int) * (pot q s b.toNat - 67 * s - -pot q s (-a).toNat) = s * (pot q s (-a).toNat - 0) + s * (pot q s b.toNat - 0) - 67 * (s * s) := by grind
      rw [e, e3]
      omega
  · rw [if_neg ha, if_neg (by omega)]
    rw [if_neg (by omega)] at hg
    have h := half_hi (s := s) (u := a.toNat) (v := b.toNat) (x := x) (by omega) (by
      rw [toN (show 0 ≤ a by omega)]; exact hx)
    rw [toN (show 0 ≤ a by omega), toN (show 0 ≤ b by omega)] at h
    have m := Int.mul_le_mul_of_nonneg_left hg.1 (show 0 ≤ b - a by omega)
    have e2 : pot q s b.toNat - 67 * ↑s - (pot q s a.toNat - 67 * ↑s) = pot q s b.toNat - pot q s a.toNat := by omega
    rw [e2]
    omega
/-! ### All strips -/
/-- The sum over the first k strips between heights. -/
def sumS (h : Nat → Int) (g : Nat → Int) : Nat → Int
  | 0 => 0
  | k + 1 => sumS h g k + (h (k + 1) - h k) * g k
theorem sum_lo {s : Nat} {o : Int} {h x g : Nat → Int} : ∀ k, (∀ i, i < k → h i ≤ h (i + 1)) → (∀ i, i ≤ k → Lo s (h i - o) (x i)) → (∀ i, i < k → g i = min (x i) (x (i + 1))) →
    sumS h g k * 50000 ≤ s * (sL s (h k - o) - sL s (h 0 - o)) + 64 * k * (s * s)
  | 0, _, _, _ => by
    rw [sumS, Int.sub_self]; simp
  | k + 1, hm, hx, hg => by
    have ih := sum_lo (s := s) (o := o) (x := x) k (fun i hi => hm i (by omega)) (fun i hi => hx i (by omega)) (fun i hi => hg i (by omega))
    have a := strip_lo (a := h k - o) (b := h (k + 1) - o) (by have := hm k (by omega); omega) (hx k (by omega)) (hx (k + 1) (by omega))
    rw [sumS, hg k (by omega)]
    have e1 : h (k + 1) - o - (h k - o) = h (k + 1) - h k := by omega
    rw [e1] at a
    have e2 : (s : Int) * (sL s (h (k + 1) - o) - sL s (h 0 - o)) = s * (sL s (h (k + 1) - o) - sL s (h k - o)) + s * (sL s (h k - o) - sL s (h 0 - o)) := by grind
    have e3 : 64 * ((k + 1 : Nat) : Int) * (s * s) = 64 * (k : Int) * (s * s) + 64 * (s * s) := by push_cast; grind
    rw [e2, e3]
    omega
theorem sum_hi {s : Nat} {o : Int} {h x g : Nat → Int} : ∀ k, (∀ i, i < k → h i ≤ h (i + 1)) → (∀ i, i ≤ k → Hi s (h i - o) (x i)) → (∀ i, i < k → if h i - o ≤ 0 ∧ 0 ≤ h (i + 1) - o then g i = s else x i ≤ g i ∧ x (i + 1) ≤ g i) →
    s * (sH s (h k - o) - sH s (h 0 - o)) ≤ sumS h g k * 50000 + 67 * k * (s * s)
  | 0, _, _, _ => by
    rw [sumS, Int.sub_self]; simp
  | k + 1, hm, hx, hg => by
    have ih := sum_hi (s := s) (o := o) (x := x) k (fun i hi => hm i (by omega)) (fun i hi => hx i (by omega)) (fun i hi => hg i (by omega))
    have a := strip_hi (a := h k - o) (b := h (k + 1) - o) (by have := hm k (by omega); omega) (hx k (by omega)) (hx (k + 1) (by omega)) (hg k (by omega))
    rw [sumS]
    have e1 : h (k + 1) - o - (h k - o) = h (k + 1) - h k := by omega
    rw [e1] at a
    have e2 : (s : Int) * (sH s (h (k + 1) - o) - sH s (h 0 - o)) = s * (sH s (h (k + 1) - o) - sH s (h k - o)) + s * (sH s (h k - o) - sH s (h 0 - o)) := by grind
    have e3 : 67 * ((k + 1 : Nat) : Int) * (s * s) = 67 * (k : Int) * (s * s) + 67 * (s * s) := by push_cast; grind
    rw [e2, e3]
    omega
theorem pot_nn {s u : Nat} : -(p 50 * s) ≤ -(pot p s u) := by have := pot_le (s := s) (u := u); omega
/-- At most 32 strips in a circle: less than 355/113 of the square of its radius. -/
theorem area_lo {s : Nat} {o : Int} {h x g : Nat → Int} {k : Nat} (hk : k ≤ 32) (hm : ∀ i, i < k → h i ≤ h (i + 1)) (hx : ∀ i, i ≤ k → Lo s (h i - o) (x i)) (hg : ∀ i, i < k → g i = min (x i) (x (i + 1))) :
    113 * (2 * sumS h g k) ≤ 355 * ((s : Int) * s) := by
  have a := sum_lo (s := s) (o := o) (x := x) k hm hx hg
  have hs : (0 : Int) ≤ s := by omega
  have hss := Int.mul_nonneg hs hs
  have nn : ∀ u, 0 ≤ pot p s u := fun u => by
    by_cases h : s ≤ u
    · rw [pot_out h]; exact Int.mul_nonneg (by decide) hs
    · rw [pot_in (by omega)]
      obtain ⟨j1, j2, j3⟩ := cell_spec (show u < s by omega)
      have pn : ∀ j, j ≤ 50 → 0 ≤ p j := fun j hj => by
        have : ∀ j, j < 51 → 0 ≤ p j := by decide
        exact this j (by omega)
      generalize cell s u = j at *
      obtain ⟨t, ht⟩ : ∃ t, t = (u : Int) * 50 - j * s := ⟨_, rfl⟩
      rw [← ht]
      have e1 : p j * s + (p (j + 1) - p j) * t = p j * (s - t) + p (j + 1) * t := by grind
      rw [e1]
      have := Int.mul_nonneg (pn j (by omega)) (show 0 ≤ (s : Int) - t by omega)
      have := Int.mul_nonneg (pn (j + 1) (by omega)) (show 0 ≤ t by omega)
      omega
  have b1 : sL s (h k - o) ≤ p 50 * s + 64 * s := by
    unfold sL
    split
    · have := nn (-(h k - o)).toNat
      have : 0 ≤ p 50 * (s : Int) := Int.mul_nonneg (by decide) hs
      omega
    · have := pot_le (s := s) (u := (h k - o).toNat)
      omega
  have b2 : -(p 50 * s) ≤ sL s (h 0 - o) := by
    unfold sL
    split
    · exact pot_nn
    · have := nn (h 0 - o).toNat
      have : 0 ≤ p 50 * (s : Int) := Int.mul_nonneg (by decide) hs
      omega
  have m1 := Int.mul_le_mul_of_nonneg_left (show sL s (h k - o) - sL s (h 0 - o) ≤ 2 * (p 50 * s) + 64 * s by omega) hs
  have e1 : (s : Int) * (2 * (p 50 * s) + 64 * s) = (2 * p 50 + 64) * (s * s) := by grind
  have m2 : 64 * (k : Int) * (s * s) ≤ 64 * 32 * (s * s) := Int.mul_le_mul_of_nonneg_right (by omega) hss
  have pv : p 50 = 38082 := rfl
  rw [e1, pv] at m1
  omega
/-- At most 32 strips over the whole circle: more than 333/106 of the square of its radius. -/
theorem area_hi {s : Nat} {o : Int} {h x g : Nat → Int} {k : Nat} (hk : k ≤ 32) (hm : ∀ i, i < k → h i ≤ h (i + 1)) (hx : ∀ i, i ≤ k → Hi s (h i - o) (x i)) (hg : ∀ i, i < k → if h i - o ≤ 0 ∧ 0 ≤ h (i + 1) - o then g i = s else x i ≤ g i ∧ x (i + 1) ≤ g i)
    (h0 : h 0 - o ≤ -s) (h1 : s ≤ h k - o) : 333 * ((s : Int) * s) ≤ 106 * (2 * sumS h g k) := by
  have a := sum_hi (s := s) (o := o) (x := x) k hm hx hg
  have hs : (0 : Int) ≤ s := by omega
  have hss := Int.mul_nonneg hs hs
  have b1 : q 50 * s - 67 * s ≤ sH s (h k - o) := by
    unfold sH
    split
    · have e : s = 0 := by omega
      subst e
      rw [pot_out (Nat.zero_le _)]
      simp
    · rw [pot_out (by omega)]; omega
  have b2 : sH s (h 0 - o) ≤ -(q 50 * s) := by
    unfold sH
    rw [if_pos (by omega), pot_out (by omega)]
    exact Int.le_refl _
  have m1 := Int.mul_le_mul_of_nonneg_left (show 2 * (q 50 * s) - 67 * s ≤ sH s (h k - o) - sH s (h 0 - o) by omega) hs
  have e1 : (s : Int) * (2 * (q 50 * s) - 67 * s) = (2 * q 50 - 67) * (s * s) := by grind
  have m2 : 67 * (k : Int) * (s * s) ≤ 67 * 32 * (s * s) := Int.mul_le_mul_of_nonneg_right (by omega) hss
  have pv : q 50 = 40433 := rfl
  rw [e1, pv] at m1
  omega
end Go.Cy
/- Top: plain laws of chords. -/
set_option linter.unusedVariables false
set_option linter.unusedSimpArgs false
set_option maxRecDepth 8000
set_option maxHeartbeats 2000000
namespace Go.Proofs.YtphipfmidfoflaaGreat
open Go.Sx Go.RowKit
/-! ### Chords -/
theorem w64 {x : Int} (h : -9223372036854775808 ≤ x) (h2 : x ≤ 9223372036854775807) : IntKind.i64.wrap x = x := IntWalk.i64_in _ (by omega)
def xL (s d : Int) : Int := if d > s ∨ -d > s then 0 else rtM (s * s - d * d)
def xH (s d : Int) : Int := if d > s ∨ -d > s then 0 else if rtM (s * s - d * d) * rtM (s * s - d * d) = s * s - d * d then rtM (s * s - d * d) else rtM (s * s - d * d) + 1
theorem sqd {s d : Int} (h : d ≤ s) (h2 : -d ≤ s) : 0 ≤ s * s - d * d := by
  have : 0 ≤ (s - d) * (s + d) := Int.mul_nonneg (by omega) (by omega)
  have e : (s - d) * (s + d) = s * s - d * d := by rw [Int.sub_mul, Int.mul_add, Int.mul_add, Int.mul_comm d s]; omega
  omega
theorem sqs {s : Int} (h : 0 ≤ s) (h2 : s ≤ 100000) : 0 ≤ s * s ∧ s * s ≤ 10000000000 := by
  refine ⟨Int.mul_nonneg h h, ?_⟩
  have := Int.mul_le_mul h2 h2 h (by omega)
  omega
theorem rt_spec {s d : Int} (h0 : 0 ≤ s) (h1 : s ≤ 100000) (h : d ≤ s) (h2 : -d ≤ s) : 0 ≤ rtM (s * s - d * d) ∧ rtM (s * s - d * d) * rtM (s * s - d * d) ≤ s * s - d * d ∧ s * s - d * d < (rtM (s * s - d * d) + 1) * (rtM (s * s - d * d) + 1) := by
  have a := sqd h h2
  have b := sqs h0 h1
  have c : 0 ≤ d * d := by
    rcases Int.le_total 0 d with hd | hd
    · exact Int.mul_nonneg hd hd
    · have := Int.mul_nonneg (a := -d) (b := -d) (by omega) (by omega)
      rwa [Int.neg_mul_neg] at this
  exact rtM_spec a (by omega)
theorem xL_nn {s d : Int} (h0 : 0 ≤ s) (h1 : s ≤ 100000) : 0 ≤ xL s d := by
  unfold xL
  split
  · exact Int.le_refl _
  · rename_i h
    exact (rt_spec h0 h1 (by omega) (by omega)).1
theorem xL_xH {s d : Int} : xL s d ≤ xH s d := by
  unfold xL xH
  split
  · exact Int.le_refl _
  · split <;> omega
theorem xL_lo {s d : Int} (h0 : 0 ≤ s) (h1 : s ≤ 100000) : Go.Cy.Lo s.toNat d (xL s d) := by
  have e : ((s.toNat : Nat) : Int) = s := Int.toNat_of_nonneg h0
  refine ⟨xL_nn h0 h1, fun h => ?_, fun h => ?_⟩
  · have h2 : ¬ (d > s ∨ -d > s) := by omega
    rw [xL, if_neg h2, e]
    exact (rt_spec h0 h1 (by omega) (by omega)).2.1
  · rw [xL, if_pos (by omega)]
theorem xH_hi {s d : Int} (h0 : 0 ≤ s) (h1 : s ≤ 100000) : Go.Cy.Hi s.toNat d (xH s d) := by
  have e : ((s.toNat : Nat) : Int) = s := Int.toNat_of_nonneg h0
  refine ⟨Int.le_trans (xL_nn h0 h1) xL_xH, fun h => ?_⟩
  have h2 : ¬ (d > s ∨ -d > s) := by omega
  rw [xH, if_neg h2, e]
  have := rt_spec (d := d) h0 h1 (by omega) (by omega)
  split
  · rename_i h3; omega
  · omega
theorem sq_le {a b : Int} (hb : 0 ≤ b) (h : a * a ≤ b * b) : a ≤ b := Go.Cy.sq_le hb h
/-- greater radius, less distance: no lesser chord -/
theorem xL_mono {s s' d d' : Int} (h0 : 0 ≤ s) (hs : s ≤ s') (h1 : s' ≤ 100000) (hd : d' * d' ≤ d * d) : xL s d ≤ xL s' d' := by
  have hdd : ∀ {s : Int}, 0 ≤ s → s ≤ s' → (d ≤ s ∧ -d ≤ s) → (d' ≤ s' ∧ -d' ≤ s') := by
    intro s h0 hs h
    have e : d * d ≤ s * s := by have := sqd h.1 h.2; omega
    have e2 : s * s ≤ s' * s' := Int.mul_le_mul hs hs h0 (by omega)
    refine ⟨sq_le (by omega) (by omega), sq_le (by omega) (by rw [Int.neg_mul_neg]; omega)⟩
  by_cases h : d > s ∨ -d > s
  · rw [xL, if_pos h]
    exact xL_nn (by omega) h1
  · obtain ⟨g1, g2⟩ := hdd h0 hs ⟨by omega, by omega⟩
    have h' : ¬ (d' > s' ∨ -d' > s') := by omega
    rw [xL, if_neg h, xL, if_neg h']
    have a := rt_spec (d := d) h0 (by omega) (by omega) (by omega)
    have b := rt_spec (d := d') (by omega) h1 g1 g2
    have e2 : s * s ≤ s' * s' := Int.mul_le_mul hs hs h0 (by omega)
    by_cases hc : rtM (s * s - d * d) ≤ rtM (s' * s' - d' * d')
    · exact hc
    · have : (rtM (s' * s' - d' * d') + 1) * (rtM (s' * s' - d' * d') + 1) ≤ rtM (s * s - d * d) * rtM (s * s - d * d) := Int.mul_le_mul (by omega) (by omega) (by omega) (by omega)
      omega
theorem xH_mono {s s' d d' : Int} (h0 : 0 ≤ s) (hs : s ≤ s') (h1 : s' ≤ 100000) (hd : d' * d' ≤ d * d) : xH s d ≤ xH s' d' := by
  by_cases h : d > s ∨ -d > s
  · rw [xH, if_pos h]
    exact Int.le_trans (xL_nn (by omega) h1) xL_xH
  · have e : d * d ≤ s * s := by have := sqd (s := s) (d := d) (by omega) (by omega); omega
    have e2 : s * s ≤ s' * s' := Int.mul_le_mul hs hs h0 (by omega)
    have g1 : d' ≤ s' := sq_le (by omega) (by omega)
    have g2 : -d' ≤ s' := sq_le (by omega) (by rw [Int.neg_mul_neg]; omega)
    have a := rt_spec (d := d) h0 (by omega) (by omega) (by omega)
    have b := rt_spec (d := d') (by omega) h1 g1 g2
    have h' : ¬ (d' > s' ∨ -d' > s') := by omega
    rw [xH, if_neg h, xH, if_neg h']
    by_cases hc : rtM (s * s - d * d) + 1 ≤ rtM (s' * s' - d' * d')
    · split <;> split <;> omega
    · have hle : rtM (s * s - d * d) ≤ rtM (s' * s' - d' * d') := by
        by_cases hc2 : rtM (s * s - d * d) ≤ rtM (s' * s' - d' * d')
        · exact hc2
        · have : (rtM (s' * s' - d' * d') + 1) * (rtM (s' * s' - d' * d') + 1) ≤ rtM (s * s - d * d) * rtM (s * s - d * d) := Int.mul_le_mul (by omega) (by omega) (by omega) (by omega)
          omega
      have heq : rtM (s' * s' - d' * d') = rtM (s * s - d * d) := by omega
      rw [heq] at b ⊢
      split
      · split <;> omega
      · rename_i h3
        rw [if_neg (fun h4 => h3 (by omega))]
        exact Int.le_refl _
theorem xH_le {s d : Int} (h0 : 0 ≤ s) (h1 : s ≤ 100000) : xH s d ≤ s := by
  have h := xH_mono (s := s) (s' := s) (d := d) (d' := 0) h0 (Int.le_refl _) h1 (by
    rcases Int.le_total 0 d with hd | hd
    · have := Int.mul_nonneg hd hd; omega
    · have := Int.mul_nonneg (a := -d) (b := -d) (by omega) (by omega)
      rw [Int.neg_mul_neg] at this; omega)
  refine Int.le_trans h ?_
  have b := rt_spec (d := 0) h0 h1 h0 (by omega)
  have h' : ¬ ((0 : Int) > s ∨ -0 > s) := by omega
  rw [xH, if_neg h']
  have e : s * s - 0 * 0 = s * s := by omega
  rw [e] at b ⊢
  have h2 : s < rtM (s * s) + 1 := by
    by_cases hc : rtM (s * s) + 1 ≤ s
    · have := Int.mul_le_mul hc hc (by omega) h0
      omega
    · omega
  have h3 : rtM (s * s) ≤ s := sq_le h0 b.2.1
  rw [show rtM (s * s) = s by omega]
  simp
theorem chord_eq {s o x : Int} (h0 : 0 ≤ s) (h1 : s ≤ 100000) (h2 : -100000 ≤ x - o) (h3 : x - o ≤ 300000) : segment_circle__chord s o x = (2 * xL s (x - o), 2 * xH s (x - o)) := by
  unfold segment_circle__chord
  rw [w64 (x := x - o) (by omega) (by omega), w64 (x := 0 - (x - o)) (by omega) (by omega)]
  by_cases h : x - o > s ∨ -(x - o) > s
  · rw [if_pos (by simp only [Bool.or_eq_true, decide_eq_true_eq]; omega), xL, if_pos h, xH, if_pos h]; rfl
  have hg : ¬ (decide (x - o > s) || decide (0 - (x - o) > s)) = true := by simp only [Bool.or_eq_true, decide_eq_true_eq]; omega
  rw [if_neg hg]
  have hr := rt_spec (d := x - o) h0 h1 (by omega) (by omega)
  have hq := sqd (s := s) (d := x - o) (by omega) (by omega)
  have hs := sqs h0 h1
  have hle : rtM (s * s - (x - o) * (x - o)) ≤ 100000 := sq_le (by omega) (by
    have : (0 : Int) ≤ (x - o) * (x - o) := by
      rcases Int.le_total 0 (x - o) with hd | hd
      · exact Int.mul_nonneg hd hd
      · have := Int.mul_nonneg (a := -(x - o)) (b := -(x - o)) (by omega) (by omega)
        rwa [Int.neg_mul_neg] at this
    omega)
  have hdd : (x - o) * (x - o) ≤ s * s := by omega
  have hd0 : (0 : Int) ≤ (x - o) * (x - o) := by
    rcases Int.le_total 0 (x - o) with hd | hd
    · exact Int.mul_nonneg hd hd
    · have := Int.mul_nonneg (a := -(x - o)) (b := -(x - o)) (by omega) (by omega)
      rwa [Int.neg_mul_neg] at this
  have hH : root_Half s (x - o) = (xL s (x - o), xH s (x - o), 0) := by
    unfold root_Half
    rw [if_neg (by simp only [Bool.or_eq_true, decide_eq_true_eq]; omega), w64 (x := 0 - (x - o)) (by omega) (by omega), if_neg hg]
    rw [w64 (x := s * s) (by omega) (by omega), w64 (x := (x - o) * (x - o)) (by omega) (by omega), w64 (x := s * s - (x - o) * (x - o)) (by omega) (by omega)]
    unfold root_both
    obtain ⟨R, hR⟩ : ∃ R, R = rtM (s * s - (x - o) * (x - o)) := ⟨_, rfl⟩
    have hRR : R * R ≤ 10000000000 := by rw [hR]; omega
    have hR0 : 0 ≤ R * R := by rw [hR]; exact Int.mul_nonneg hr.1 hr.1
    rw [xL, if_neg h, xH, if_neg h, ← hR, w64 (x := R * R) (by omega) (by omega)]
    by_cases e : R * R = s * s - (x - o) * (x - o)
    · rw [if_pos (by simpa using e), if_pos e]
    · rw [if_neg (by simpa using e), if_neg e, w64 (x := R + 1) (by omega) (by omega)]
  have a := xL_nn (d := x - o) h0 h1
  have b := xL_xH (s := s) (d := x - o)
  have c := xH_le (d := x - o) h0 h1
  unfold root_Chord
  rw [hH, w64 (x := 2 * xL s (x - o)) (by omega) (by omega), w64 (x := 2 * xH s (x - o)) (by omega) (by omega)]
def gl (s o a b : Int) : Int := min (xL s (a - o)) (xL s (b - o))
def gh (s o a b : Int) : Int := if a ≤ o ∧ o ≤ b then s else max (xH s (a - o)) (xH s (b - o))
theorem gl_nn {s o a b : Int} (h0 : 0 ≤ s) (h1 : s ≤ 100000) : 0 ≤ gl s o a b ∧ gl s o a b ≤ s := by
  have a1 := xL_nn (d := a - o) h0 h1
  have a2 := xL_nn (d := b - o) h0 h1
  have a3 := xL_xH (s := s) (d := a - o)
  have a4 := xH_le (d := a - o) h0 h1
  unfold gl
  omega
theorem gh_nn {s o a b : Int} (h0 : 0 ≤ s) (h1 : s ≤ 100000) : 0 ≤ gh s o a b ∧ gh s o a b ≤ s := by
  have a1 := xL_nn (d := a - o) h0 h1
  have a2 := xL_nn (d := b - o) h0 h1
  have a3 := xL_xH (s := s) (d := a - o)
  have a4 := xH_le (d := a - o) h0 h1
  have a5 := xL_xH (s := s) (d := b - o)
  have a6 := xH_le (d := b - o) h0 h1
  unfold gh
  split <;> omega
theorem strip_eq {s o a b : Int} (h0 : 0 ≤ s) (h1 : s ≤ 100000) (ho : 0 ≤ o ∧ o ≤ 100000) (ha : 0 ≤ a) (hab : a ≤ b) (hb : b ≤ 200000) : segment_circle__strip s o a b = ((b - a) * (2 * gl s o a b), (b - a) * (2 * gh s o a b)) := by
  have ca := chord_eq (s := s) (o := o) (x := a) h0 h1 (by omega) (by omega)
  have cb := chord_eq (s := s) (o := o) (x := b) h0 h1 (by omega) (by omega)
  have l1 := gl_nn (o := o) (a := a) (b := b) h0 h1
  have l2 := gh_nn (o := o) (a := a) (b := b) h0 h1
  have m1 : (b - a) * (2 * gl s o a b) ≤ 200000 * 200000 := Int.mul_le_mul (by omega) (by omega) (by omega) (by omega)
  have m2 : (b - a) * (2 * gh s o a b) ≤ 200000 * 200000 := Int.mul_le_mul (by omega) (by omega) (by omega) (by omega)
  have m3 : 0 ≤ (b - a) * (2 * gl s o a b) := Int.mul_nonneg (by omega) (by omega)
  have m4 : 0 ≤ (b - a) * (2 * gh s o a b) := Int.mul_nonneg (by omega) (by omega)
  have e1 : (if (2 * xL s (b - o)) < (2 * xL s (a - o)) then (2 * xL s (b - o)) else (2 * xL s (a - o))) = 2 * gl s o a b := by
    unfold gl
    split <;> omega
  unfold segment_circle__strip
  rw [ca, cb, w64 (x := b - a) (by omega) (by omega)]
  simp only
  rw [e1, w64 (x := (b - a) * (2 * gl s o a b)) (by omega) (by omega)]
  by_cases h : a ≤ o ∧ o ≤ b
  · rw [if_pos (by simpa using h), w64 (x := 2 * s) (by omega) (by omega)]
    rw [gh, if_pos h] at m2 m4 ⊢
    rw [w64 (x := (b - a) * (2 * s)) (by omega) (by omega)]
  · have e2 : (if (2 * xH s (b - o)) > (2 * xH s (a - o)) then (2 * xH s (b - o)) else (2 * xH s (a - o))) = 2 * gh s o a b := by
      rw [gh, if_neg h]
      split <;> omega
    rw [if_neg (by simpa using h), e2, w64 (x := (b - a) * (2 * gh s o a b)) (by omega) (by omega)]
open Go.Cy (sumS)
/-- The sums of a row of heights. -/
theorem areaS_eq {s o : Int} {hs : List Int} (h0 : 0 ≤ s) (h1 : s ≤ 100000) (ho : 0 ≤ o ∧ o ≤ 100000) : ∀ k, (∀ i, i ≤ k → 0 ≤ hs.getD i 0 ∧ hs.getD i 0 ≤ 200000) → (∀ i, i < k → hs.getD i 0 ≤ hs.getD (i + 1) 0) →
    areaS s o hs k = (2 * sumS (fun i => hs.getD i 0) (fun i => gl s o (hs.getD i 0) (hs.getD (i + 1) 0)) k, 2 * sumS (fun i => hs.getD i 0) (fun i => gh s o (hs.getD i 0) (hs.getD (i + 1) 0)) k) ∧
    (0 ≤ sumS (fun i => hs.getD i 0) (fun i => gl s o (hs.getD i 0) (hs.getD (i + 1) 0)) k ∧ sumS (fun i => hs.getD i 0) (fun i => gl s o (hs.getD i 0) (hs.getD (i + 1) 0)) k ≤ (hs.getD k 0 - hs.getD 0 0) * 100000) ∧
    (0 ≤ sumS (fun i => hs.getD i 0) (fun i => gh s o (hs.getD i 0) (hs.getD (i + 1) 0)) k ∧ sumS (fun i => hs.getD i 0) (fun i => gh s o (hs.getD i 0) (hs.getD (i + 1) 0)) k ≤ (hs.getD k 0 - hs.getD 0 0) * 100000)
  | 0, _, _ => by
    refine ⟨rfl, ⟨Int.le_refl _, ?_⟩, ⟨Int.le_refl _, ?_⟩⟩ <;> simp [sumS]
  | k + 1, hb, hm => by
    obtain ⟨e, e1, e2⟩ := areaS_eq h0 h1 ho k (fun i hi => hb i (by omega)) (fun i hi => hm i (by omega))
    obtain ⟨a, ha⟩ : ∃ a, a = hs.getD k 0 := ⟨_, rfl⟩
    obtain ⟨b, hb'⟩ : ∃ b, b = hs.getD (k + 1) 0 := ⟨_, rfl⟩
    have b0 := hb 0 (by omega)
    have bk := hb k (by omega)
    have bk1 := hb (k + 1) (by omega)
    have mk := hm k (by omega)
    have st := strip_eq (s := s) (o := o) (a := hs.getD k 0) (b := hs.getD (k + 1) 0) h0 h1 ho bk.1 mk bk1.2
    have l1 := gl_nn (o := o) (a := a) (b := b) h0 h1
    have l2 := gh_nn (o := o) (a := a) (b := b) h0 h1
    have hab : 0 ≤ b - a := by omega
    have m1 : (b - a) * gl s o a b ≤ (b - a) * 100000 := Int.mul_le_mul_of_nonneg_left (by omega) hab
    have m2 : (b - a) * gh s o a b ≤ (b - a) * 100000 := Int.mul_le_mul_of_nonneg_left (by omega) hab
    have m3 : 0 ≤ (b - a) * gl s o a b := Int.mul_nonneg hab (by omega)
    have m4 : 0 ≤ (b - a) * gh s o a b := Int.mul_nonneg hab (by omega)
    have q1 : (b - a) * (2 * gl s o a b) = 2 * ((b - a) * gl s o a b) := Int.mul_left_comm _ _ _
    have q2 : (b - a) * (2 * gh s o a b) = 2 * ((b - a) * gh s o a b) := Int.mul_left_comm _ _ _
    rw [areaS, e, st]
    simp only [sumS]
    rw [← ha, ← hb', q1, q2]
    refine ⟨?_, ⟨by omega, by omega⟩, ⟨by omega, by omega⟩⟩
    rw [w64 (by omega) (by omega), w64 (by omega) (by omega), Int.mul_add, Int.mul_add]
end Go.Proofs.YtphipfmidfoflaaGreat
/- Top: plain laws of grids. -/
set_option linter.unusedVariables false
set_option linter.unusedSimpArgs false
set_option maxRecDepth 8000
set_option maxHeartbeats 2000000
namespace Go.Proofs.YtphipfmidfoflaaGreat
open Go.Sx Go.RowKit
/-! ### Sorted rows without doubles -/
theorem compactUpTo_inv (d : Array Int) (hs : ∀ j, j + 1 < d.size → d[j]! ≤ d[j + 1]!) : ∀ m, m ≤ d.size → (Lib.compactUpTo d m).Pairwise (· < ·) ∧ (∀ x, x ∈ Lib.compactUpTo d m ↔ ∃ j, j < m ∧ d[j]! = x) ∧ ∀ x, x ∈ Lib.compactUpTo d m → 0 < m ∧ x ≤ d[m - 1]!
  | 0, _ => ⟨by simp [Lib.compactUpTo], fun x => ⟨fun h => by simp [Lib.compactUpTo] at h, fun ⟨j, h, _⟩ => absurd h (Nat.not_lt_zero j)⟩, fun x h => by simp [Lib.compactUpTo] at h⟩
  | m + 1, hm => by
    obtain ⟨h1, h2, h3⟩ := compactUpTo_inv d hs m (by omega)
    rw [Lib.compactUpTo_succ]
    have hle : 0 < m → d[m - 1]! ≤ d[m]! := fun h0 => by
      have := hs (m - 1) (by omega)
      rwa [show m - 1 + 1 = m by omega] at this
    by_cases hk : Lib.keeps d m = true
    · rw [if_pos hk]
      have hk' : m = 0 ∨ d[m]! ≠ d[m - 1]! := by simpa [Lib.keeps] using hk
      refine ⟨List.pairwise_append.2 ⟨h1, by simp, fun a ha b hb => ?_⟩, fun x => ?_, fun x hx => ?_⟩
      · simp at hb
        subst hb
        obtain ⟨g1, g2⟩ := h3 a ha
        have := hle g1
        rcases hk' with h | h
        · omega
        · omega
      · rw [List.mem_append, h2]
        constructor
        · rintro (⟨j, hj, e⟩ | h)
          · exact ⟨j, by omega, e⟩
          · simp at h
            exact ⟨m, by omega, h.symm⟩
        · rintro ⟨j, hj, e⟩
          by_cases hjm : j = m
          · subst hjm; exact .inr (by simp [e])
          · exact .inl ⟨j, by omega, e⟩
      · rw [List.mem_append] at hx
        rcases hx with hx | hx
        · obtain ⟨g1, g2⟩ := h3 x hx
          have := hle g1
          exact ⟨by omega, by simp only [Nat.add_sub_cancel]; omega⟩
        · simp at hx
          exact ⟨by omega, by simp only [Nat.add_sub_cancel]; omega⟩
    · rw [if_neg hk, List.append_nil]
      have hk' : ¬ (m = 0 ∨ d[m]! ≠ d[m - 1]!) := by simpa [Lib.keeps] using hk
      have hm0 : m ≠ 0 := fun h => hk' (.inl h)
      have he : d[m]! = d[m - 1]! := by
        by_cases e : d[m]! = d[m - 1]!
        · exact e
        · exact absurd (.inr e) hk'
      refine ⟨h1, fun x => ?_, fun x hx => ?_⟩
      · rw [h2]
        constructor
        · rintro ⟨j, hj, e⟩; exact ⟨j, by omega, e⟩
        · rintro ⟨j, hj, e⟩
          by_cases hjm : j = m
          · subst hjm
            exact ⟨j - 1, by omega, by rw [← he]; exact e⟩
          · exact ⟨j, by omega, e⟩
      · obtain ⟨g1, g2⟩ := h3 x hx
        exact ⟨by omega, by simp only [Nat.add_sub_cancel]; omega⟩
theorem srtA_mem {l : List Int} {x : Int} : x ∈ srtA l ↔ x ∈ l := (List.mergeSort_perm l _).mem_iff
theorem srtA_sorted (l : List Int) : (srtA l).Pairwise (· ≤ ·) := by
  have := List.pairwise_mergeSort (le := fun x y : Int => decide (x ≤ y)) (fun a b c h1 h2 => by simp only [decide_eq_true_eq] at *; omega) (fun a b => by simp only [Bool.or_eq_true, decide_eq_true_eq]; omega) l
  exact this.imp fun h => by simpa using h
theorem srtL_spec (l : List Int) : (srtL l).Pairwise (· < ·) ∧ ∀ x, x ∈ srtL l ↔ x ∈ l := by
  have hsz : (srtA l).toArray.size = (srtA l).length := by simp
  have h := compactUpTo_inv (srtA l).toArray (fun j hj => by
    rw [hsz] at hj
    have := List.pairwise_iff_getElem.1 (srtA_sorted l) j (j + 1) (by omega) hj (by omega)
    rw [getElem!_pos _ _ (by rw [hsz]; omega), getElem!_pos _ _ (by rw [hsz]; omega)]
    simpa using this) (srtA l).length (by rw [hsz]; exact Nat.le_refl _)
  refine ⟨h.1, fun x => ?_⟩
  show x ∈ Lib.compactUpTo (srtA l).toArray (srtA l).length ↔ _
  rw [h.2.1, ← srtA_mem, List.mem_iff_getElem]
  constructor
  · rintro ⟨j, hj, e⟩
    refine ⟨j, hj, ?_⟩
    rw [getElem!_pos _ _ (by rw [hsz]; omega)] at e
    simpa using e
  · rintro ⟨j, hj, e⟩
    refine ⟨j, hj, ?_⟩
    rw [getElem!_pos _ _ (by rw [hsz]; omega)]
    simpa using e
/-! ### Grids: rows that increase from a to b -/
structure Grid (p : List Int) (a b : Int) : Prop where
  len : 1 ≤ p.length
  fst : p.getD 0 0 = a
  lst : p.getD (p.length - 1) 0 = b
  inc : ∀ i j, i < j → j < p.length → p.getD i 0 < p.getD j 0
theorem getD_at {p : List Int} {i : Nat} (h : i < p.length) : p.getD i 0 = p[i] := by rw [List.getD_eq_getElem?_getD, List.getElem?_eq_getElem h]; rfl
theorem mem_at {p : List Int} {x : Int} : x ∈ p ↔ ∃ i, i < p.length ∧ p.getD i 0 = x := by
  rw [List.mem_iff_getElem]
  constructor
  · rintro ⟨i, h, e⟩; exact ⟨i, h, by rw [getD_at h]; exact e⟩
  · rintro ⟨i, h, e⟩; exact ⟨i, h, by rw [getD_at h] at e; exact e⟩
theorem Grid.of {p : List Int} {a b : Int} (h : p.Pairwise (· < ·)) (ha : a ∈ p) (hb : b ∈ p) (h1 : ∀ x, x ∈ p → a ≤ x ∧ x ≤ b) : Grid p a b := by
  have hinc : ∀ i j, i < j → j < p.length → p.getD i 0 < p.getD j 0 := fun i j hij hj => by
    rw [getD_at (by omega), getD_at hj]
    exact List.pairwise_iff_getElem.1 h i j (by omega) hj hij
  obtain ⟨i, hi, ei⟩ := mem_at.1 ha
  obtain ⟨j, hj, ej⟩ := mem_at.1 hb
  refine ⟨by omega, ?_, ?_, hinc⟩
  · have := h1 _ (mem_at.2 ⟨0, by omega, rfl⟩)
    rcases Nat.eq_zero_or_pos i with h0 | h0
    · rw [← ei, h0]
    · have := hinc 0 i h0 hi; omega
  · have := h1 _ (mem_at.2 ⟨p.length - 1, by omega, rfl⟩)
    by_cases h0 : j = p.length - 1
    · rw [← ej, h0]
    · have := hinc j (p.length - 1) (by omega) (by omega); omega
theorem Grid.mono {p : List Int} {a b : Int} (h : Grid p a b) {i j : Nat} (hij : i ≤ j) (hj : j < p.length) : p.getD i 0 ≤ p.getD j 0 := by
  rcases Nat.lt_or_ge i j with h1 | h1
  · exact Int.le_of_lt (h.inc i j h1 hj)
  · rw [show i = j by omega]; exact Int.le_refl _
theorem Grid.range {p : List Int} {a b : Int} (h : Grid p a b) {i : Nat} (hi : i < p.length) : a ≤ p.getD i 0 ∧ p.getD i 0 ≤ b := by
  rw [← h.fst, ← h.lst]
  exact ⟨h.mono (Nat.zero_le _) hi, h.mono (by omega) (by omega)⟩
/-! ### Heights -/
theorem tdiv_ediv {a b : Int} (h : 0 ≤ a) : a.tdiv b = a / b := Int.tdiv_eq_ediv_of_nonneg h
theorem ih_bound {dip n : Int} {i : Nat} (h0 : 0 ≤ dip) (h1 : dip ≤ 200000) (hn : 1 ≤ n) (hi : (i : Int) ≤ n) : 0 ≤ (i : Int) * dip ∧ 0 ≤ (i : Int) * dip / n ∧ (i : Int) * dip / n ≤ dip := by
  have a : 0 ≤ (i : Int) * dip := Int.mul_nonneg (by omega) h0
  refine ⟨a, Int.ediv_nonneg a (by omega), ?_⟩
  refine Int.ediv_le_of_le_mul (by omega) ?_
  rw [Int.mul_comm dip n]
  exact Int.mul_le_mul_of_nonneg_right hi h0
theorem lvl_eq {dip n : Int} {i : Nat} (h0 : 0 ≤ dip) (h1 : dip ≤ 200000) (hn : 1 ≤ n) (hn2 : n ≤ 64) (hi : (i : Int) ≤ n) : lvl dip n i = (i : Int) * dip / n := by
  obtain ⟨a, b, c⟩ := ih_bound h0 h1 hn hi
  have d : (i : Int) * dip ≤ 64 * 200000 := Int.mul_le_mul (by omega) h1 h0 (by omega)
  unfold lvl
  rw [w64 (x := (i : Int) * dip) (by omega) (by omega), tdiv_ediv a, w64 (by omega) (by omega)]
theorem hgt_eq {dip n : Int} {i : Nat} (h0 : 0 ≤ dip) (h1 : dip ≤ 200000) (hn : 1 ≤ n) (hn2 : n ≤ 64) (hi : (i : Int) ≤ n) : hgt dip n i = (i : Int) * dip / n := by
  obtain ⟨a, b, c⟩ := ih_bound h0 h1 hn hi
  have d : (i : Int) * dip ≤ 64 * 200000 := Int.mul_le_mul (by omega) h1 h0 (by omega)
  unfold hgt
  rw [w64 (x := (i : Int) * dip) (by omega) (by omega), tdiv_ediv a, Int.zero_add, w64 (x := (i : Int) * dip / n) (by omega) (by omega), w64 (by omega) (by omega)]
theorem hsM_at {dip n : Int} {k i : Nat} (hi : i < k) : (hsM dip n k).getD i 0 = hgt dip n i := by
  rw [getD_at (by rw [hsM_len]; exact hi)]
  simp [hsM]
theorem ih_mono {dip n : Int} {i j : Nat} (h0 : 0 ≤ dip) (hn : 1 ≤ n) (h : i ≤ j) : (i : Int) * dip / n ≤ (j : Int) * dip / n := by
  refine Int.ediv_le_ediv (by omega) ?_
  exact Int.mul_le_mul_of_nonneg_right (by omega) h0
end Go.Proofs.YtphipfmidfoflaaGreat
/- Top: plain laws of levels and frustums. -/
set_option linter.unusedVariables false
set_option linter.unusedSimpArgs false
set_option maxRecDepth 8000
set_option maxHeartbeats 2000000
namespace Go.Proofs.YtphipfmidfoflaaGreat
open Go.Sx Go.RowKit
open Go.Cy (sumS)
/-! ### Frustums -/
def Fq (l : List (Int × Int)) : Nat → Int
  | 0 => 0
  | i + 1 => Fq l i + ((pt l (i + 1)).1 - (pt l i).1) * ((pt l i).2 * (pt l i).2 + (pt l i).2 * (pt l (i + 1)).2 + (pt l (i + 1)).2 * (pt l (i + 1)).2)
theorem mulB {a b m n : Int} (h0 : 0 ≤ a) (h1 : a ≤ m) (h2 : 0 ≤ b) (h3 : b ≤ n) : 0 ≤ a * b ∧ a * b ≤ m * n := ⟨Int.mul_nonneg h0 h2, Int.mul_le_mul h1 h3 h2 (by omega)⟩
theorem frT_eq {h a b : Int} (h0 : 0 ≤ h) (h1 : h ≤ 100000) (a0 : 0 ≤ a) (a1 : a ≤ 100000) (b0 : 0 ≤ b) (b1 : b ≤ 100000) : frT h a b = h * (a * a + a * b + b * b) ∧ 0 ≤ h * (a * a + a * b + b * b) ∧ h * (a * a + a * b + b * b) ≤ h * 30000000000 := by
  have x1 := mulB a0 a1 a0 a1
  have x2 := mulB a0 a1 b0 b1
  have x3 := mulB b0 b1 b0 b1
  have x4 := mulB (a := h) (b := a * a + a * b + b * b) (m := 100000) (n := 30000000000) h0 h1 (by omega) (by omega)
  have x5 : h * (a * a + a * b + b * b) ≤ h * 30000000000 := Int.mul_le_mul_of_nonneg_left (by omega) h0
  refine ⟨?_, x4.1, x5⟩
  unfold frT
  rw [w64 (x := a * a) (by omega) (by omega), w64 (x := a * b) (by omega) (by omega), w64 (x := b * b) (by omega) (by omega), w64 (x := a * a + a * b) (by omega) (by omega), w64 (x := a * a + a * b + b * b) (by omega) (by omega), w64 (by omega) (by omega)]
theorem frS_eq {l : List (Int × Int)} (ok : ProfOK l) : ∀ k, k < l.length → frS l k = Fq l k ∧ 0 ≤ Fq l k ∧ Fq l k ≤ (pt l k).1 * 30000000000
  | 0, _ => by
    refine ⟨rfl, Int.le_refl _, ?_⟩
    rw [ok.zero]; simp [Fq]
  | k + 1, hk => by
    obtain ⟨e1, e2, e3⟩ := frS_eq ok k (by omega)
    have a1 := ok.x0 k (by omega)
    have a2 := ok.x0 (k + 1) hk
    have a3 := ok.r0 k (by omega)
    have a4 := ok.r0 (k + 1) hk
    have a5 := ok.up k hk
    obtain ⟨f1, f2, f3⟩ := frT_eq (h := (pt l (k + 1)).1 - (pt l k).1) (a := (pt l k).2) (b := (pt l (k + 1)).2) (by omega) (by omega) (by omega) (by omega) (by omega) (by omega)
    rw [frS, e1, w64 (x := (pt l (k + 1)).1 - (pt l k).1) (by omega) (by omega), f1]
    refine ⟨?_, ?_, ?_⟩
    · rw [w64 (by omega) (by omega)]; rfl
    · show 0 ≤ Fq l k + _; omega
    · show Fq l k + _ ≤ _; omega
def spL (a : Int) : Int := a * 333 / 318
def spH (b : Int) : Int := (b * 355 + 338) / 339
theorem space_eq {a b : Int} (h0 : 0 ≤ a) (h1 : a ≤ 3000000000000000) (h2 : 0 ≤ b) (h3 : b ≤ 3000000000000000) : standing_space a b = (spL a, spH b) := by
  unfold standing_space spL spH
  rw [w64 (x := a * 333) (by omega) (by omega), w64 (x := b * 355) (by omega) (by omega), w64 (x := b * 355 + 338) (by omega) (by omega), tdiv_ediv (by omega), tdiv_ediv (by omega), w64 (by omega) (by omega), w64 (by omega) (by omega)]
theorem Fq_bound {l : List (Int × Int)} (ok : ProfOK l) : frS l (l.length - 1) = Fq l (l.length - 1) ∧ 0 ≤ Fq l (l.length - 1) ∧ Fq l (l.length - 1) ≤ 3000000000000000 := by
  have h2 := ok.two
  obtain ⟨a, b, c⟩ := frS_eq ok (l.length - 1) (by omega)
  have d := ok.x0 (l.length - 1) (by omega)
  exact ⟨a, b, by omega⟩
theorem cap_eq {l : List (Int × Int)} (h : profE l = 0) : capacity_Space l = (spL (Fq l (l.length - 1)), spH (Fq l (l.length - 1)), 0) := by
  have ok := profE_ok h
  obtain ⟨a, b, c⟩ := Fq_bound ok
  have e : frM l = (Fq l (l.length - 1), 0) := by rw [frM, if_neg (by simp [h]), a]
  unfold capacity_Space
  rw [e]
  simp only
  rw [if_neg (by decide)]
  unfold spL spH
  rw [w64 (x := Fq l (l.length - 1) * 333) (by omega) (by omega), w64 (x := Fq l (l.length - 1) * 355) (by omega) (by omega), w64 (x := Fq l (l.length - 1) * 355 + 338) (by omega) (by omega), tdiv_ediv (by omega), tdiv_ediv (by omega), w64 (by omega) (by omega), w64 (by omega) (by omega)]
theorem sp_le {a b : Int} (h0 : 0 ≤ a) (h : a ≤ b) : spL a ≤ spH b := by unfold spL spH; omega
theorem spL_mono {a b : Int} (h : a ≤ b) : spL a ≤ spL b := by unfold spL; omega
theorem spH_mono {a b : Int} (h : a ≤ b) : spH a ≤ spH b := by unfold spH; omega
/-! ### Sums over levels -/
theorem stS_eq {l : List (Int × Int)} {lv : List Int} : ∀ k, k < lv.length → (∀ i, i ≤ k → 0 ≤ lv.getD i 0 ∧ lv.getD i 0 ≤ 100000) → (∀ i, i < k → lv.getD i 0 ≤ lv.getD (i + 1) 0) → (∀ i, i < k → (0 ≤ slB l lv i ∧ slB l lv i ≤ 100000) ∧ (0 ≤ slC l lv i ∧ slC l lv i ≤ 100000)) →
    stS l lv k = (3 * sumS (fun i => lv.getD i 0) (fun i => slB l lv i * slB l lv i) k, 3 * sumS (fun i => lv.getD i 0) (fun i => slC l lv i * slC l lv i) k) ∧
    (0 ≤ sumS (fun i => lv.getD i 0) (fun i => slB l lv i * slB l lv i) k ∧ sumS (fun i => lv.getD i 0) (fun i => slB l lv i * slB l lv i) k ≤ (lv.getD k 0 - lv.getD 0 0) * 10000000000) ∧
    (0 ≤ sumS (fun i => lv.getD i 0) (fun i => slC l lv i * slC l lv i) k ∧ sumS (fun i => lv.getD i 0) (fun i => slC l lv i * slC l lv i) k ≤ (lv.getD k 0 - lv.getD 0 0) * 10000000000)
  | 0, _, _, _, _ => by
    refine ⟨rfl, ⟨Int.le_refl _, ?_⟩, ⟨Int.le_refl _, ?_⟩⟩ <;> simp [sumS]
  | k + 1, hk, hb, hm, hr => by
    obtain ⟨e, e1, e2⟩ := stS_eq k (by omega) (fun i hi => hb i (by omega)) (fun i hi => hm i (by omega)) (fun i hi => hr i (by omega))
    have b0 := hb 0 (by omega)
    have bk := hb k (by omega)
    have bk1 := hb (k + 1) (by omega)
    have mk := hm k (by omega)
    obtain ⟨r1, r2⟩ := hr k (by omega)
    obtain ⟨d, hd⟩ : ∃ d, d = lv.getD (k + 1) 0 - lv.getD k 0 := ⟨_, rfl⟩
    have q1 := mulB r1.1 r1.2 r1.1 r1.2
    have q2 := mulB r2.1 r2.2 r2.1 r2.2
    have d0 : 0 ≤ d ∧ d ≤ 100000 := by omega
    have ea : slA l lv k = d := by unfold slA; rw [← hd, w64 (by omega) (by omega)]
    obtain ⟨B, hB⟩ : ∃ B, B = slB l lv k := ⟨_, rfl⟩
    obtain ⟨C, hC⟩ : ∃ C, C = slC l lv k := ⟨_, rfl⟩
    rw [← hB] at q1 r1
    rw [← hC] at q2 r2
    have m1 := mulB (a := d) (b := B * B) d0.1 d0.2 q1.1 q1.2
    have m2 := mulB (a := d) (b := C * C) d0.1 d0.2 q2.1 q2.2
    have n1 : d * (B * B) ≤ d * 10000000000 := Int.mul_le_mul_of_nonneg_left (by omega) d0.1
    have n2 : d * (C * C) ≤ d * 10000000000 := Int.mul_le_mul_of_nonneg_left (by omega) d0.1
    have p1 := mulB (a := d) (b := B) d0.1 d0.2 r1.1 r1.2
    have p2 := mulB (a := d) (b := C) d0.1 d0.2 r2.1 r2.2
    have t1 : 3 * d * B * B = 3 * (d * (B * B)) := by rw [Int.mul_assoc, Int.mul_assoc]
    have t2 : 3 * d * C * C = 3 * (d * (C * C)) := by rw [Int.mul_assoc, Int.mul_assoc]
    have u1 : 3 * d * B = 3 * (d * B) := Int.mul_assoc _ _ _
    have u2 : 3 * d * C = 3 * (d * C) := Int.mul_assoc _ _ _
    rw [stS, e, ea, ← hB, ← hC]
    simp only [sumS]
    rw [← hd, ← hB, ← hC]
    unfold sumAdd
    simp only
    rw [w64 (x := 3 * d) (by omega) (by omega), w64 (x := 3 * d * B) (by omega) (by omega), w64 (x := 3 * d * B * B) (by omega) (by omega), w64 (x := 3 * d * C) (by omega) (by omega), w64 (x := 3 * d * C * C) (by omega) (by omega), t1, t2]
    refine ⟨?_, ⟨by omega, by omega⟩, ⟨by omega, by omega⟩⟩
    rw [w64 (by omega) (by omega), w64 (by omega) (by omega), Int.mul_add, Int.mul_add]
/-! ### Levels -/
theorem mem_lvM {dip n x : Int} {k : Nat} : x ∈ lvM dip n k ↔ ∃ i, i < k ∧ lvl dip n i = x := by simp [lvM]
theorem mem_addX {l : List (Int × Int)} {dip x : Int} {o : List Int} : ∀ k, x ∈ addX l dip o k ↔ x ∈ o ∨ ∃ j, j < k ∧ (pt l j).1 < dip ∧ (pt l j).1 = x
  | 0 => ⟨.inl, fun h => h.elim id fun ⟨j, h, _⟩ => absurd h (Nat.not_lt_zero j)⟩
  | k + 1 => by
    have ih := mem_addX (l := l) (dip := dip) (x := x) (o := o) k
    unfold addX
    split
    · rename_i h
      rw [List.mem_append, ih]
      constructor
      · rintro ((h1 | ⟨j, h1, h2⟩) | h1)
        · exact .inl h1
        · exact .inr ⟨j, by omega, h2⟩
        · simp at h1
          exact .inr ⟨k, by omega, h, h1.symm⟩
      · rintro (h1 | ⟨j, h1, h2⟩)
        · exact .inl (.inl h1)
        · by_cases e : j = k
          · subst e; exact .inr (List.mem_singleton.2 h2.2.symm)
          · exact .inl (.inr ⟨j, by omega, h2⟩)
    · rename_i h
      rw [ih]
      constructor
      · rintro (h1 | ⟨j, h1, h2⟩)
        · exact .inl h1
        · exact .inr ⟨j, by omega, h2⟩
      · rintro (h1 | ⟨j, h1, h2⟩)
        · exact .inl h1
        · by_cases e : j = k
          · subst e; exact absurd h2.1 h
          · exact .inr ⟨j, by omega, h2⟩
theorem mem_levels {l : List (Int × Int)} {dip n x : Int} (h0 : 0 ≤ dip) (h1 : dip ≤ 100000) (hn : 1 ≤ n) (hn2 : n ≤ 64) : x ∈ srtL (rawL l dip n) ↔ (∃ i : Nat, (i : Int) ≤ n ∧ (i : Int) * dip / n = x) ∨ ∃ j, j < l.length ∧ (pt l j).1 < dip ∧ (pt l j).1 = x := by
  rw [(srtL_spec _).2, rawL, mem_addX, mem_lvM]
  constructor
  · rintro (⟨i, hi, e⟩ | h)
    · exact .inl ⟨i, by omega, by rw [← e, lvl_eq h0 (by omega) hn hn2 (by omega)]⟩
    · exact .inr h
  · rintro (⟨i, hi, e⟩ | h)
    · exact .inl ⟨i, by omega, by rw [← e, lvl_eq h0 (by omega) hn hn2 hi]⟩
    · exact .inr h
theorem levels_grid {l : List (Int × Int)} (ok : ProfOK l) {dip n : Int} (h0 : 0 ≤ dip) (h1 : dip ≤ 100000) (hn : 1 ≤ n) (hn2 : n ≤ 64) : Grid (srtL (rawL l dip n)) 0 dip := by
  refine Grid.of (srtL_spec _).1 ((mem_levels h0 h1 hn hn2).2 (.inl ⟨0, by omega, by simp⟩)) ((mem_levels h0 h1 hn hn2).2 (.inl ⟨n.toNat, by omega, ?_⟩)) fun x hx => ?_
  · rw [show ((n.toNat : Nat) : Int) = n by omega]
    exact Int.mul_ediv_cancel_left dip (by omega)
  · rcases (mem_levels h0 h1 hn hn2).1 hx with ⟨i, hi, e⟩ | ⟨j, hj, h2, e⟩
    · have := ih_bound h0 (by omega) hn hi
      omega
    · have := ok.x0 j hj
      omega
theorem stCheck_ok {s : ByteArray} {pos decl : Int} {l : List (Int × Int)} {lv : List Int} {b : Int} (h : standing_stands s pos l decl = 0) (ok : ProfOK l) (hg : Grid lv 0 b) (hb : b ≤ lenP l) (h2 : 2 ≤ lv.length) (h3 : lv.length ≤ 128) (hm : ∀ i, i < l.length → (pt l i).1 < b → (pt l i).1 ∈ lv) : stCheck s pos l decl lv = 0 := by
  have e1 : stOut lv (lenP l) = false := any_range_no fun i hi => by
    have := hg.range hi
    simp only [Bool.or_eq_false_iff, decide_eq_false_iff_not]
    omega
  have e2 : stDown lv = false := any_range_no fun i hi => by
    have := hg.inc i (i + 1) (by omega) (by omega)
    simp only [decide_eq_false_iff_not]
    omega
  have e3 : stMiss l lv = false := any_range_no fun i hi => by
    by_cases hx : (pt l i).1 < lastI lv
    · have : hasI lv (pt l i).1 = true := by
        have hl : lastI lv = b := hg.lst
        have := hm i hi (by omega)
        exact List.any_eq_true.2 ⟨_, this, by simp⟩
      rw [this]; simp
    · rw [decide_eq_false hx]; simp
  have a1 : ¬ (lv.length : Int) < 2 := by omega
  have a2 : ¬ (lv.length : Int) > 128 := by omega
  unfold stCheck
  rw [h, e1, e2, e3]
  simp [a1, a2]
end Go.Proofs.YtphipfmidfoflaaGreat
/- Top: plain laws of lying casks. -/
set_option linter.unusedVariables false
set_option linter.unusedSimpArgs false
set_option maxRecDepth 8000
set_option maxHeartbeats 2000000
namespace Go.Proofs.YtphipfmidfoflaaGreat
open Go.Sx Go.RowKit
open Go.Cy (sumS)
/-! ### Sums over places of lying casks -/
structure HOK (hs : List Int) : Prop where
  len : 2 ≤ hs.length ∧ hs.length ≤ 65
  rg : ∀ i, i < hs.length → 0 ≤ hs.getD i 0 ∧ hs.getD i 0 ≤ 200000
  up : ∀ i, i + 1 < hs.length → hs.getD i 0 ≤ hs.getD (i + 1) 0
theorem HOK.seg {hs : List Int} (h : HOK hs) : segE hs = 0 := by
  have e1 : segOut hs = false := any_range_no fun i hi => by
    have := h.rg i hi
    simp only [Bool.or_eq_false_iff, decide_eq_false_iff_not]
    omega
  have e2 : segDown hs = false := any_range_no fun i hi => by
    have := h.up i (by omega)
    simp only [decide_eq_false_iff_not]
    omega
  have := h.len
  rw [segE, if_neg (by omega), if_neg (by omega), if_neg (by rw [e1]; decide), if_neg (by rw [e2]; decide)]
/-- area of the strips inside, outside -/
def AL (hs : List Int) (o s : Int) : Int := sumS (fun i => hs.getD i 0) (fun i => gl s o (hs.getD i 0) (hs.getD (i + 1) 0)) (hs.length - 1)
def AH (hs : List Int) (o s : Int) : Int := sumS (fun i => hs.getD i 0) (fun i => gh s o (hs.getD i 0) (hs.getD (i + 1) 0)) (hs.length - 1)
theorem seg_eq {hs : List Int} {s o : Int} (h : HOK hs) (h0 : 0 ≤ s) (h1 : s ≤ 100000) (ho : 0 ≤ o ∧ o ≤ 100000) : segArea s o hs = (2 * AL hs o s, 2 * AH hs o s, 0) ∧ (0 ≤ AL hs o s ∧ AL hs o s ≤ 20000000000) ∧ (0 ≤ AH hs o s ∧ AH hs o s ≤ 20000000000) := by
  have hl := h.len
  obtain ⟨e, e1, e2⟩ := areaS_eq (s := s) (o := o) (hs := hs) h0 h1 ho (hs.length - 1) (fun i hi => h.rg i (by omega)) (fun i hi => h.up i (by omega))
  have a := h.rg 0 (by omega)
  have b := h.rg (hs.length - 1) (by omega)
  have e1' : 0 ≤ AL hs o s ∧ AL hs o s ≤ (hs.getD (hs.length - 1) 0 - hs.getD 0 0) * 100000 := e1
  have e2' : 0 ≤ AH hs o s ∧ AH hs o s ≤ (hs.getD (hs.length - 1) 0 - hs.getD 0 0) * 100000 := e2
  refine ⟨?_, ⟨by omega, by omega⟩, ⟨by omega, by omega⟩⟩
  have hm : (!(segment_measure s) || !(segment_measure o)) = false := by
    simp [segment_measure]
    omega
  unfold segArea
  rw [if_neg (by rw [hm]; decide), h.seg, if_neg (by decide)]
  show ((areaS s o hs (hs.length - 1)).1, (areaS s o hs (hs.length - 1)).2, 0) = _
  rw [e]
  rfl
theorem betS_eq {l : List (Int × Int)} {p hs : List Int} {dp o : Int} (hh : HOK hs) (ho : 0 ≤ o ∧ o ≤ 100000) (hdp : IntKind.i64.wrap (dp.tdiv 2) = o) : ∀ k, k < p.length → (∀ i, i ≤ k → 0 ≤ p.getD i 0 ∧ p.getD i 0 ≤ 100000) → (∀ i, i < k → p.getD i 0 ≤ p.getD (i + 1) 0) → (∀ i, i < k → (0 ≤ slB l p i ∧ slB l p i ≤ 100000) ∧ (0 ≤ slC l p i ∧ slC l p i ≤ 100000)) →
    betS l p hs dp k = (2 * sumS (fun i => p.getD i 0) (fun i => AL hs o (slB l p i)) k, 2 * sumS (fun i => p.getD i 0) (fun i => AH hs o (slC l p i)) k) ∧
    (0 ≤ sumS (fun i => p.getD i 0) (fun i => AL hs o (slB l p i)) k ∧ sumS (fun i => p.getD i 0) (fun i => AL hs o (slB l p i)) k ≤ (p.getD k 0 - p.getD 0 0) * 20000000000) ∧
    (0 ≤ sumS (fun i => p.getD i 0) (fun i => AH hs o (slC l p i)) k ∧ sumS (fun i => p.getD i 0) (fun i => AH hs o (slC l p i)) k ≤ (p.getD k 0 - p.getD 0 0) * 20000000000)
  | 0, _, _, _, _ => by
    refine ⟨rfl, ⟨Int.le_refl _, ?_⟩, ⟨Int.le_refl _, ?_⟩⟩ <;> simp [sumS]
  | k + 1, hk, hb, hm, hr => by
    obtain ⟨e, e1, e2⟩ := betS_eq (l := l) hh ho hdp k (by omega) (fun i hi => hb i (by omega)) (fun i hi => hm i (by omega)) (fun i hi => hr i (by omega))
    have b0 := hb 0 (by omega)
    have bk := hb k (by omega)
    have bk1 := hb (k + 1) (by omega)
    have mk := hm k (by omega)
    obtain ⟨r1, r2⟩ := hr k (by omega)
    obtain ⟨s1, s2, _⟩ := seg_eq hh r1.1 r1.2 ho
    obtain ⟨s3, _, s4⟩ := seg_eq hh r2.1 r2.2 ho
    obtain ⟨d, hd⟩ : ∃ d, d = p.getD (k + 1) 0 - p.getD k 0 := ⟨_, rfl⟩
    have d0 : 0 ≤ d ∧ d ≤ 100000 := by omega
    have ea : slA l p k = d := by unfold slA; rw [← hd, w64 (by omega) (by omega)]
    obtain ⟨B, hB⟩ : ∃ B, B = AL hs o (slB l p k) := ⟨_, rfl⟩
    obtain ⟨C, hC⟩ : ∃ C, C = AH hs o (slC l p k) := ⟨_, rfl⟩
    rw [← hB] at s1 s2
    rw [← hC] at s3 s4
    have m1 := mulB (a := d) (b := B) d0.1 d0.2 s2.1 s2.2
    have m2 := mulB (a := d) (b := C) d0.1 d0.2 s4.1 s4.2
    have n1 : d * B ≤ d * 20000000000 := Int.mul_le_mul_of_nonneg_left s2.2 d0.1
    have n2 : d * C ≤ d * 20000000000 := Int.mul_le_mul_of_nonneg_left s4.2 d0.1
    have t1 : d * (2 * B) = 2 * (d * B) := Int.mul_left_comm _ _ _
    have t2 : d * (2 * C) = 2 * (d * C) := Int.mul_left_comm _ _ _
    rw [betS, e, ea, hdp, s1, s3]
    simp only [sumS]
    rw [← hd, ← hB, ← hC, t1, t2]
    refine ⟨?_, ⟨by omega, by omega⟩, ⟨by omega, by omega⟩⟩
    rw [w64 (x := 2 * (d * B)) (by omega) (by omega), w64 (x := 2 * (d * C)) (by omega) (by omega), w64 (by omega) (by omega), w64 (by omega) (by omega), Int.mul_add, Int.mul_add]
theorem hs_ok {dip n : Int} (h0 : 0 ≤ dip) (h1 : dip ≤ 200000) (hn : 1 ≤ n) (hn2 : n ≤ 64) : HOK (hsM dip n (n.toNat + 1)) := by
  have hl := hsM_len dip n (n.toNat + 1)
  refine ⟨by omega, fun i hi => ?_, fun i hi => ?_⟩
  · rw [hl] at hi
    rw [hsM_at hi, hgt_eq h0 h1 hn hn2 (by omega)]
    have := ih_bound (i := i) h0 h1 hn (by omega)
    omega
  · rw [hl] at hi
    rw [hsM_at (by omega), hsM_at (by omega), hgt_eq h0 h1 hn hn2 (by omega), hgt_eq h0 h1 hn hn2 (by omega)]
    exact ih_mono h0 hn (by omega)
theorem hs_first {dip n : Int} (h0 : 0 ≤ dip) (h1 : dip ≤ 200000) (hn : 1 ≤ n) (hn2 : n ≤ 64) : (hsM dip n (n.toNat + 1)).getD 0 0 = 0 := by
  rw [hsM_at (by omega), hgt_eq h0 h1 hn hn2 (by omega)]
  simp
theorem hs_last {dip n : Int} (h0 : 0 ≤ dip) (h1 : dip ≤ 200000) (hn : 1 ≤ n) (hn2 : n ≤ 64) : (hsM dip n (n.toNat + 1)).getD n.toNat 0 = dip := by
  rw [hsM_at (by omega), hgt_eq h0 h1 hn hn2 (by omega), show ((n.toNat : Nat) : Int) = n by omega]
  exact Int.mul_ediv_cancel_left dip (by omega)
/-- Strips inside: at most 355/113 of the square of the radius. -/
theorem AL_le {hs : List Int} {o s : Int} (h : HOK hs) (hl : hs.length ≤ 33) (h0 : 0 ≤ s) (h1 : s ≤ 100000) : 113 * (2 * AL hs o s) ≤ 355 * (s * s) := by
  have e : ((s.toNat : Nat) : Int) = s := Int.toNat_of_nonneg h0
  have := Go.Cy.area_lo (s := s.toNat) (o := o) (h := fun i => hs.getD i 0) (x := fun i => xL s (hs.getD i 0 - o)) (g := fun i => gl s o (hs.getD i 0) (hs.getD (i + 1) 0)) (k := hs.length - 1) (by omega) (fun i hi => h.up i (by omega)) (fun i hi => xL_lo h0 h1) (fun i hi => rfl)
  rw [e] at this
  exact this
/-- Strips outside, over the whole circle: at least 333/106. -/
theorem AH_ge {hs : List Int} {o s : Int} (h : HOK hs) (hl : hs.length ≤ 33) (h0 : 0 ≤ s) (h1 : s ≤ 100000) (hf : hs.getD 0 0 - o ≤ -s) (hb : s ≤ hs.getD (hs.length - 1) 0 - o) : 333 * (s * s) ≤ 106 * (2 * AH hs o s) := by
  have e : ((s.toNat : Nat) : Int) = s := Int.toNat_of_nonneg h0
  have := Go.Cy.area_hi (s := s.toNat) (o := o) (h := fun i => hs.getD i 0) (x := fun i => xH s (hs.getD i 0 - o)) (g := fun i => gh s o (hs.getD i 0) (hs.getD (i + 1) 0)) (k := hs.length - 1) (by omega) (fun i hi => h.up i (by omega)) (fun i hi => xH_hi h0 h1) (fun i hi => ?_) (by rw [e]; exact hf) (by rw [e]; exact hb)
  · rw [e] at this
    exact this
  · split
    · rename_i h2
      rw [gh, if_pos (by omega), e]
    · rename_i h2
      rw [gh, if_neg (by omega)]
      omega
end Go.Proofs.YtphipfmidfoflaaGreat
/- Top: the places of lying casks. -/
set_option linter.unusedVariables false
set_option linter.unusedSimpArgs false
set_option maxRecDepth 8000
set_option maxHeartbeats 2000000
namespace Go.Proofs.YtphipfmidfoflaaGreat
open Go.Sx Go.RowKit
theorem ordered_any (B : Option Addr) (d : Nat) (lv : List Int) (w : World) (h4 : RdRow w B lv.length 1 (elI lv)) (hl2 : lv.length ≤ 100000) (hl1 : 1 ≤ lv.length) :
    Calls Tryz.prog 62 #[.slice B lv.length d] w fun e w' => e = .returned (.bool (!(stDown lv))) ∧ Below w.heap.size w w' := by
  refine enterPlain tfine Tryz.func62 rfl 20 Tryz.ntmps62 [.c (.inp 1001 B lv.length d)] [⟨1001, B, 1, lv.length, elI lv⟩] rfl rfl ⟨h4, trivial⟩ ⟨.inl ⟨rfl, rfl, rfl⟩, trivial⟩ ?_
  refine G.seqR tfine rfl trivial ?_
  refine G.seq (G.seqR tfine rfl trivial ?_)
  refine G.block (G.loop (fun k : Nat => St.of [(0, .v (.c (.inp 1001 B lv.length d))), (3, .v (.c (.k (I (k + 1 : Nat)))))]
      [(1001, .ro 1 lv.length (elI lv))])
    (fun k => k + 1 ≤ lv.length ∧ ∀ j, j < k → decide (lv.getD j 0 ≥ lv.getD (j + 1) 0) = false) (fun k => lv.length - k) 0 ⟨by show 0 + 1 ≤ _; omega, fun j hj => absurd hj (Nat.not_lt_zero j)⟩ (St.le_of rfl ⟨⟨_, rfl, Blk.le_refl _⟩, trivial⟩ ⟨rfl, rfl, trivial⟩) ?_)
  rintro k ⟨hk, hall⟩
  refine G.seq ?_
  refine G.seqR tfine rfl trivial ?_
  refine G.cond (b := decide (((k + 1 : Nat) : Int) < (lv.length : Int))) rfl (fun h7 => ?_) (fun h7 => ?_)
  · have h7 := of_decide_eq_true h7
    have hlt : k + 1 < lv.length := by omega
    have hw1 : IntKind.i64.wrap (((k + 1 : Nat) : Int) - 1) = (k : Int) := by rw [show (((k + 1 : Nat) : Int) - 1) = (k : Int) by omega]; exact IntWalk.i64_in _ (by omega)
    refine G.skip ?_
    refine G.seq (G.block ?_)
    refine G.seqD tfine hmix [0, 0, 2, 7, 15, 0, 0, 96, 224, 511] [] rfl rfl rfl rfl ?_ ?_
    · simp only [AllP, hw1]
      and_intros <;> first | trivial | omega
    refine G.cond (b := decide (lv.getD (IntKind.i64.wrap (((k + 1 : Nat) : Int) - 1)).toNat 0 ≥ lv.getD (((k + 1 : Nat) : Int)).toNat 0)) rfl (fun h8 => ?_) (fun h8 => ?_)
    · rw [hw1, Int.toNat_natCast, Int.toNat_natCast] at h8
      refine G.seqR tfine rfl trivial ?_
      refine G.ret (endK.ret rfl ?_)
      rw [show stDown lv = true from any_range (p := fun i => decide (lv.getD i 0 ≥ lv.getD (i + 1) 0)) (show k < lv.length - 1 by omega) h8]
      rfl
    · rw [hw1, Int.toNat_natCast, Int.toNat_natCast] at h8
      refine G.skip ?_
      refine G.reg tfine rfl trivial ?_
      refine ⟨k + 1, ⟨hlt, fun j hj => ?_⟩, (by show lv.length - (k + 1) < lv.length - k; omega), St.le_of rfl ⟨⟨_, rfl, Blk.le_refl _⟩, trivial⟩ ⟨rfl, ?_, trivial⟩⟩
      · rcases Nat.lt_or_ge j k with h | h
        · exact hall j h
        · rw [show j = k by omega]; exact h8
      · simp [up, I]; rw [IntWalk.i64_in _ (by omega)]
  have h7 := of_decide_eq_false h7
  have hkl : k = lv.length - 1 := by omega
  subst hkl
  have ho : stDown lv = false := any_range_no hall
  refine G.exit ?_
  refine G.seqR tfine rfl trivial ?_
  refine G.ret (endK.ret rfl ?_)
  rw [ho]
  rfl
def lyMiss (l : List (Int × Int)) (lv : List Int) : Bool := (List.range l.length).any fun i => !(hasI lv (pt l i).1)
def lyCheck (s : ByteArray) (pos : Int) (l : List (Int × Int)) (decl : Int) (lv : List Int) : Int := if (lying_lies s pos l decl != 0) = true then lying_lies s pos l decl else if decide ((lv.length : Int) < 2) = true then 9 else if decide ((lv.length : Int) > 65) = true then 8 else if stDown lv = true then 5 else if (lv.getD 0 0 != 0 || lastI lv != lenP l) = true then 5 else if lyMiss l lv = true then 7 else 0
theorem lies_prof {s : ByteArray} {pos decl : Int} {l : List (Int × Int)} (h : lying_lies s pos l decl = 0) : cask_Check s pos l decl = 0 ∧ pos = 1 ∧ profE l = 0 := by
  unfold lying_lies at h
  split at h
  · cases h
  rename_i h1
  split at h
  · cases h
  rename_i h2
  have h1 : cask_Check s pos l decl = 0 := by simpa using h1
  exact ⟨h1, by simpa using h2, caskE_prof h1⟩
theorem lyCheck_any (s : ByteArray) (pos : Int) (A : Option Addr) (c : Nat) (l : List (Int × Int)) (decl : Int) (B : Option Addr) (d : Nat) (lv : List Int) (w : World) (h3 : RdRow w A l.length 2 (elP l)) (h4 : RdRow w B lv.length 1 (elI lv)) (hn : l.length ≤ 100000) (hl2 : lv.length ≤ 100000) :
    Calls Tryz.prog 96 #[.agg #[.string s, I pos, .slice A l.length c, I decl], .slice B lv.length d] w fun e w' => e = .returned (I (lyCheck s pos l decl lv)) ∧ Below w.heap.size w w' := by
  refine enterPlain tfine Tryz.func96 rfl 71 Tryz.ntmps96 [.agg [.k (.string s), .k (I pos), .inp 1000 A l.length c, .k (I decl)], .c (.inp 1001 B lv.length d)] [⟨1000, A, 2, l.length, elP l⟩, ⟨1001, B, 1, lv.length, elI lv⟩] rfl rfl ⟨h3, h4, trivial⟩ ⟨⟨trivial, trivial, .inl ⟨rfl, rfl, rfl⟩, trivial, trivial⟩, .inr ⟨(by decide : (1000 : Nat) ≠ 1001), .inl ⟨rfl, rfl, rfl⟩⟩, trivial⟩ ?_
  refine G.seqR tfine rfl trivial ?_
  refine G.seq ?_
  refine G.seqC tfine rfl trivial ?_
  refine GO.callPlain (v := I (lying_lies s pos l decl)) rfl rfl rfl rfl (fun args w => Tryz.call54 args w) (fun ρ w hs hok => lying_lies_any s pos A c l decl w (hs.row (cap := c) rfl (hok _ List.mem_cons_self _ (.tail _ (.tail _ (.head _))))) hn) ?_
  refine GO.fin tfine rfl trivial ?_
  refine G.seqR tfine rfl trivial ?_
  refine G.cond (b := lying_lies s pos l decl != 0) rfl (fun h1 => ?_) (fun h1 => ?_)
  · refine G.seqR tfine rfl trivial ?_
    refine G.ret (endK.ret rfl ?_)
    rw [lyCheck, if_pos h1]
  refine G.skip ?_
  obtain ⟨hck, hps, hE⟩ := lies_prof (show lying_lies s pos l decl = 0 by simpa using h1)
  have hok := profE_ok hE
  have hE' : (profE l != 0) = false := by rw [hE]; rfl
  refine G.seq ?_
  refine G.seqR tfine rfl trivial ?_
  refine G.cond (b := decide ((lv.length : Int) < 2)) rfl (fun h2 => ?_) (fun h2 => ?_)
  · refine G.seqR tfine rfl trivial ?_
    refine G.ret (endK.ret rfl ?_)
    rw [lyCheck, if_neg (fne h1), if_pos h2]
  refine G.skip ?_
  refine G.seq ?_
  refine G.seqR tfine rfl trivial ?_
  refine G.cond (b := decide ((lv.length : Int) > 65)) rfl (fun h5 => ?_) (fun h5 => ?_)
  · refine G.seqR tfine rfl trivial ?_
    refine G.ret (endK.ret rfl ?_)
    rw [lyCheck, if_neg (fne h1), if_neg (fne h2), if_pos h5]
  refine G.skip ?_
  have hr : lyCheck s pos l decl lv = if stDown lv = true then 5 else if (lv.getD 0 0 != 0 || lastI lv != lenP l) = true then 5 else if lyMiss l lv = true then 7 else 0 := by rw [lyCheck, if_neg (fne h1), if_neg (fne h2), if_neg (fne h5)]
  have hlv : 2 ≤ lv.length := by have := of_decide_eq_false h2; omega
  refine G.seq (G.seqR tfine rfl trivial ?_)
  refine G.block (G.loop (fun k : Nat => St.of [(1, .v (.c (.inp 1001 B lv.length d))), (2, .v (.c (.ptr 2 0 0 0))), (6, .v (.c (.k (I (k + 1 : Nat)))))]
      [(1000, .ro 2 l.length (elP l)), (1001, .ro 1 lv.length (elI lv)), (2, .var 24 [.k (.string s), .k (I pos), .inp 1000 A l.length c, .k (I decl)])])
    (fun k => k + 1 ≤ lv.length ∧ ∀ j, j < k → decide (lv.getD j 0 ≥ lv.getD (j + 1) 0) = false) (fun k => lv.length - k) 0 ⟨by show 0 + 1 ≤ _; omega, fun j hj => absurd hj (Nat.not_lt_zero j)⟩ (St.le_of rfl ⟨⟨_, rfl, Blk.le_refl _⟩, ⟨_, rfl, Blk.le_refl _⟩, ⟨_, rfl, Blk.le_refl _⟩, trivial⟩ ⟨rfl, rfl, rfl, trivial⟩) ?_)
  rintro k ⟨hk, hall⟩
  refine G.seq ?_
  refine G.seqR tfine rfl trivial ?_
  refine G.cond (b := decide (((k + 1 : Nat) : Int) < (lv.length : Int))) rfl (fun h7 => ?_) (fun h7 => ?_)
  · have h7 := of_decide_eq_true h7
    have hlt : k + 1 < lv.length := by omega
    have hw1 : IntKind.i64.wrap (((k + 1 : Nat) : Int) - 1) = (k : Int) := by rw [show (((k + 1 : Nat) : Int) - 1) = (k : Int) by omega]; exact IntWalk.i64_in _ (by omega)
    refine G.skip ?_
    refine G.seq (G.block ?_)
    refine G.seqD tfine hmix [0, 0, 2, 7, 15, 0, 0, 96, 224, 511] [] rfl rfl rfl rfl ?_ ?_
    · simp only [AllP, hw1]
      and_intros <;> first | trivial | omega
    refine G.cond (b := decide (lv.getD (IntKind.i64.wrap (((k + 1 : Nat) : Int) - 1)).toNat 0 ≥ lv.getD (((k + 1 : Nat) : Int)).toNat 0)) rfl (fun h8 => ?_) (fun h8 => ?_)
    · rw [hw1, Int.toNat_natCast, Int.toNat_natCast] at h8
      refine G.seqR tfine rfl trivial ?_
      refine G.ret (endK.ret rfl ?_)
      rw [hr, if_pos (show stDown lv = true from any_range (p := fun i => decide (lv.getD i 0 ≥ lv.getD (i + 1) 0)) (show k < lv.length - 1 by omega) h8)]
    · rw [hw1, Int.toNat_natCast, Int.toNat_natCast] at h8
      refine G.skip ?_
      refine G.reg tfine rfl trivial ?_
      refine ⟨k + 1, ⟨hlt, fun j hj => ?_⟩, (by show lv.length - (k + 1) < lv.length - k; omega), St.le_of rfl ⟨⟨_, rfl, Blk.le_refl _⟩, ⟨_, rfl, Blk.le_refl _⟩, ⟨_, rfl, Blk.le_refl _⟩, trivial⟩ ⟨rfl, rfl, ?_, trivial⟩⟩
      · rcases Nat.lt_or_ge j k with h | h
        · exact hall j h
        · rw [show j = k by omega]; exact h8
      · simp [up, I]; rw [IntWalk.i64_in _ (by omega)]
  have h7 := of_decide_eq_false h7
  have hkl : k = lv.length - 1 := by omega
  subst hkl
  have ho : stDown lv = false := any_range_no hall
  rw [ho] at hr
  have hr : lyCheck s pos l decl lv = if (lv.getD 0 0 != 0 || lastI lv != lenP l) = true then 5 else if lyMiss l lv = true then 7 else 0 := hr
  clear ho hall hk h7
  refine G.exit ?_
  refine G.seq ?_
  refine G.seqC tfine rfl trivial ?_
  refine GO.callPlain (v := .tuple #[I (lenP l), I 0]) rfl rfl rfl rfl (fun args w => Tryz.call26 args w) (fun ρ w hs hok => ?_) ?_
  · have := profile_Length_any A c l w (hs.row (cap := c) rfl (hok _ List.mem_cons_self)) hn
    rw [profile_Length, if_neg (fne hE')] at this
    exact this
  refine GO.fin tfine rfl trivial ?_
  have hw2 : IntKind.i64.wrap ((lv.length : Int) - 1) = ((lv.length - 1 : Nat) : Int) := by rw [show (lv.length : Int) - 1 = ((lv.length - 1 : Nat) : Int) by omega]; exact IntWalk.i64_in _ (by omega)
  refine G.seqR tfine rfl ?_ ?_
  · simp only [AllP, condB, hw2]
    and_intros <;> first | trivial | (intros; omega) | (intros; assumption) | (intros; simp_all; done)
  refine G.cond (b := lv.getD 0 0 != 0 || lv.getD (IntKind.i64.wrap ((lv.length : Int) - 1)).toNat 0 != lenP l) rfl (fun h8 => ?_) (fun h8 => ?_)
  · rw [hw2, Int.toNat_natCast] at h8
    refine G.seqR tfine rfl trivial ?_
    refine G.ret (endK.ret rfl ?_)
    rw [hr, if_pos (show (lv.getD 0 0 != 0 || lastI lv != lenP l) = true from h8)]
  rw [hw2, Int.toNat_natCast] at h8
  have h8 : (lv.getD 0 0 != 0 || lastI lv != lenP l) = false := h8
  rw [if_neg (fne h8)] at hr
  refine G.skip ?_
  refine G.seq (G.seqR tfine rfl trivial ?_)
  refine G.block (G.loop (fun k : Nat => St.of [(1, .v (.c (.inp 1001 B lv.length d))), (59, .v (.c (.inp 1000 A l.length c))), (60, .v (.c (.k (I l.length)))), (61, .v (.c (.k (I k))))]
      [(1000, .ro 2 l.length (elP l)), (1001, .ro 1 lv.length (elI lv))])
    (fun k => k ≤ l.length ∧ ∀ j, j < k → (!(hasI lv (pt l j).1)) = false) (fun k => l.length - k) 0 ⟨Nat.zero_le _, fun j hj => absurd hj (Nat.not_lt_zero j)⟩ (St.le_of rfl ⟨⟨_, rfl, Blk.le_refl _⟩, ⟨_, rfl, Blk.le_refl _⟩, trivial⟩ ⟨rfl, rfl, rfl, rfl, trivial⟩) ?_)
  rintro k ⟨hk, hall⟩
  refine G.seqR tfine rfl trivial ?_
  refine G.seq (G.cond (b := decide ((k : Int) < (l.length : Int))) rfl (fun h7 => ?_) (fun h7 => ?_))
  rotate_left
  · have h7 := of_decide_eq_false h7
    have hkl : k = l.length := by omega
    subst hkl
    have ho : lyMiss l lv = false := any_range_no hall
    rw [ho] at hr
    refine G.exit ?_
    refine G.seqR tfine rfl trivial ?_
    refine G.ret (endK.ret rfl ?_)
    rw [hr]; rfl
  have h7 := of_decide_eq_true h7
  have hlt : k < l.length := by omega
  refine G.skip ?_
  refine G.seq (G.block ?_)
  refine G.seqR tfine rfl ?_ ?_
  · first | trivial | (simp [AllP, condB]; done) | (simp only [AllP]; and_intros <;> first | trivial | decide | omega) | (simp [AllP, condB]; intros; and_intros <;> first | assumption | omega) | (simp [AllP, condB]; intros; simp_all; done)
  refine G.seqC tfine rfl trivial ?_
  refine GO.callPlain (v := .bool (hasI lv (pt l k).1)) rfl rfl rfl rfl (fun args w => Tryz.call68 args w) (fun ρ w hs hok => containsI_any B d lv _ w (hs.row (cap := d) rfl (hok _ List.mem_cons_self)) hl2) ?_
  refine GO.fin tfine rfl trivial ?_
  refine G.cond (b := !(hasI lv (pt l k).1)) rfl (fun h8 => ?_) (fun h8 => ?_)
  · refine G.seqR tfine rfl trivial ?_
    refine G.ret (endK.ret rfl ?_)
    rw [hr, if_pos (show lyMiss l lv = true from any_range (p := fun i => !(hasI lv (pt l i).1)) hlt h8)]
  · refine G.skip ?_
    refine G.reg tfine rfl trivial ?_
    refine ⟨k + 1, ⟨hlt, fun j hj => ?_⟩, (by show l.length - (k + 1) < l.length - k; omega), St.le_of rfl ⟨⟨_, rfl, Blk.le_refl _⟩, ⟨_, rfl, Blk.le_refl _⟩, trivial⟩ ⟨rfl, rfl, rfl, ?_, trivial⟩⟩
    · rcases Nat.lt_or_ge j k with h | h
      · exact hall j h
      · rw [show j = k by omega]; exact h8
    · simp [up, I]; rw [IntWalk.i64_in _ (by omega)]
def lyBet (s : ByteArray) (pos : Int) (l : List (Int × Int)) (decl : Int) (lv hs : List Int) (dp : Int) : Int × Int × Int := if (lyCheck s pos l decl lv != 0) = true then (0, 0, lyCheck s pos l decl lv) else if (segE hs != 0) = true then (0, 0, segE hs) else ((betM l lv hs dp).1, (betM l lv hs dp).2, 0)
theorem lyCheck_len {s : ByteArray} {pos decl : Int} {l : List (Int × Int)} {lv : List Int} (h : lyCheck s pos l decl lv = 0) : 2 ≤ lv.length ∧ lv.length ≤ 65 := by
  unfold lyCheck at h
  split at h
  · rename_i h1
    rw [h] at h1
    exact absurd h1 (by decide)
  split at h
  · omega
  rename_i h2
  split at h
  · omega
  rename_i h3
  have h2 := of_decide_eq_false (Bool.eq_false_iff.2 h2)
  have h3 := of_decide_eq_false (Bool.eq_false_iff.2 h3)
  omega
theorem segE_len {hs : List Int} (h : segE hs = 0) : 2 ≤ hs.length ∧ hs.length ≤ 65 := by
  unfold segE at h
  split at h
  · omega
  split at h
  · omega
  omega
theorem lyBetween_any (s : ByteArray) (pos : Int) (A : Option Addr) (c : Nat) (l : List (Int × Int)) (decl : Int) (B : Option Addr) (d : Nat) (lv : List Int) (H : Option Addr) (e : Nat) (hs : List Int) (w : World) (h3 : RdRow w A l.length 2 (elP l)) (h4 : RdRow w B lv.length 1 (elI lv)) (h5 : RdRow w H hs.length 1 (elI hs)) (hn : l.length ≤ 100000) (hl2 : lv.length ≤ 100000) (hl3 : hs.length ≤ 100000) :
    Calls Tryz.prog 63 #[.agg #[.string s, I pos, .slice A l.length c, I decl], .slice B lv.length d, .slice H hs.length e] w fun e w' => e = .returned (.tuple #[.agg #[I (lyBet s pos l decl lv hs (depthM s pos l decl).1).1, I (lyBet s pos l decl lv hs (depthM s pos l decl).1).2.1], I (lyBet s pos l decl lv hs (depthM s pos l decl).1).2.2]) ∧ Below w.heap.size w w' := by
  refine enterSay [] [.agg [.k (.string s), .k (I pos), .k (.slice A l.length c), .k (I decl)], .c (.k (.slice B lv.length d)), .c (.k (.slice H hs.length e))]
    [(801, .say (sb (.slice A l.length c)) (fun w => RdRow w A l.length 2 (elP l))), (802, .say (sb (.slice B lv.length d)) (fun w => RdRow w B lv.length 1 (elI lv))), (803, .say (sb (.slice H hs.length e)) (fun w => RdRow w H hs.length 1 (elI hs)))] Tryz.func63 rfl 27 Tryz.ntmps63 rfl rfl ⟨⟨trivial, trivial, trivial, trivial, trivial⟩, trivial, trivial, trivial⟩
    ⟨⟨h3, sb_lt h3, steady_row⟩, ⟨fun h => h.elim, fun h => h.elim, fun h => h.elim, fun h => h.elim, trivial⟩, ⟨h4, sb_lt h4, steady_row⟩, ⟨fun h => h.elim, fun h => h.elim, trivial⟩, ⟨h5, sb_lt h5, steady_row⟩, trivial, trivial⟩ ?_
  refine G.seqR tfine rfl trivial ?_
  refine G.seq ?_
  refine G.seqC tfine rfl trivial ?_
  refine GO.callPlain (v := I (lyCheck s pos l decl lv)) rfl rfl rfl rfl (fun args w => Tryz.call96 args w) (fun ρ w hs hok => lyCheck_any s pos A c l decl B d lv w (hs.ok 801 _ rfl).1 (hs.ok 802 _ rfl).1 hn hl2) ?_
  refine GO.fin tfine rfl trivial ?_
  refine G.seqR tfine rfl trivial ?_
  refine G.cond (b := lyCheck s pos l decl lv != 0) rfl (fun h1 => ?_) (fun h1 => ?_)
  · refine G.seqR tfine rfl trivial ?_
    refine G.ret (retK.plain tfine rfl ?_)
    rw [lyBet, if_pos h1]
  have hlv := lyCheck_len (by simpa using h1)
  refine G.skip ?_
  refine G.seq ?_
  refine G.seqC tfine rfl trivial ?_
  refine GO.callPlain (v := I (segE hs)) rfl rfl rfl rfl (fun args w => Tryz.call97 args w) (fun ρ w hs hok => segCheck_any H e _ w (hs.ok 803 _ rfl).1 hl3) ?_
  refine GO.fin tfine rfl trivial ?_
  refine G.seqR tfine rfl trivial ?_
  refine G.cond (b := segE hs != 0) rfl (fun h2 => ?_) (fun h2 => ?_)
  · refine G.seqR tfine rfl trivial ?_
    refine G.ret (retK.plain tfine rfl ?_)
    rw [lyBet, if_neg (fne h1), if_pos h2]
  have hlh := segE_len (hs := hs) (by simpa using h2)
  refine G.skip ?_
  refine G.seqC tfine rfl trivial ?_
  refine GO.callPlain (v := .agg #[I (betM l lv hs (depthM s pos l decl).1).1, I (betM l lv hs (depthM s pos l decl).1).2]) rfl rfl rfl rfl (fun args w => Tryz.call57 args w) (fun ρ w hs hok => between_lying_any s pos A c l decl B d lv H e _ w (hs.ok 801 _ rfl).1 (hs.ok 802 _ rfl).1 (hs.ok 803 _ rfl).1 hn (by omega) (by omega)) ?_
  refine GO.fin tfine rfl trivial ?_
  refine G.ret (retK.plain tfine rfl ?_)
  rw [lyBet, if_neg (fne h1), if_neg (fne h2)]
def faultM (s : ByteArray) (pos : Int) (l : List (Int × Int)) (decl : Int) (lv : List Int) (n : Int) : Int := if ((depthM s pos l decl).2 != 0) = true then 1 else if (decide (n < 1) || decide (n > 64)) = true then 2 else if decide ((lv.length : Int) < 2) = true then 9 else if decide ((lv.length : Int) > 128) = true then 8 else if ((!(!(stDown lv)) || lv.getD 0 0 != 0) || lastI lv != (depthM s pos l decl).1) = true then 5 else 0
theorem fault_any (s : ByteArray) (pos : Int) (A : Option Addr) (c : Nat) (l : List (Int × Int)) (decl : Int) (B : Option Addr) (d : Nat) (lv : List Int) (n : Int) (w : World) (h3 : RdRow w A l.length 2 (elP l)) (h4 : RdRow w B lv.length 1 (elI lv)) (hn : l.length ≤ 100000) (hl2 : lv.length ≤ 100000) :
    Calls Tryz.prog 34 #[.agg #[.string s, I pos, .slice A l.length c, I decl], .slice B lv.length d, I n] w fun e w' => e = .returned (I (faultM s pos l decl lv n)) ∧ Below w.heap.size w w' := by
  refine enterPlain tfine Tryz.func34 rfl 52 Tryz.ntmps34 [.agg [.k (.string s), .k (I pos), .inp 1000 A l.length c, .k (I decl)], .c (.inp 1001 B lv.length d), .c (.k (I n))] [⟨1000, A, 2, l.length, elP l⟩, ⟨1001, B, 1, lv.length, elI lv⟩] rfl rfl ⟨h3, h4, trivial⟩ ⟨⟨trivial, trivial, .inl ⟨rfl, rfl, rfl⟩, trivial, trivial⟩, .inr ⟨(by decide : (1000 : Nat) ≠ 1001), .inl ⟨rfl, rfl, rfl⟩⟩, trivial, trivial⟩ ?_
  refine G.seqR tfine rfl trivial ?_
  refine G.seqC tfine rfl trivial ?_
  refine GO.callPlain (v := .tuple #[I (depthM s pos l decl).1, I (depthM s pos l decl).2]) rfl rfl rfl rfl (fun args w => Tryz.call7 args w) (fun ρ w hs hok => depth_any s pos A c l decl w (hs.row (cap := c) rfl (hok _ List.mem_cons_self _ (.tail _ (.tail _ (.head _))))) hn) ?_
  refine GO.fin tfine rfl trivial ?_
  refine G.seq (G.block ?_)
  refine G.seqR tfine rfl trivial ?_
  refine G.cond (b := (depthM s pos l decl).2 != 0) rfl (fun h1 => ?_) (fun h1 => ?_)
  · refine G.seqR tfine rfl trivial ?_
    refine G.ret (endK.ret rfl ?_)
    rw [faultM, if_pos h1]
  refine G.seqR tfine rfl ?_ ?_
  · first | trivial | (simp [AllP, condB]; done) | (simp only [AllP]; and_intros <;> first | trivial | decide | omega) | (simp [AllP, condB]; intros; and_intros <;> first | assumption | omega) | (simp [AllP, condB]; intros; simp_all; done)
  refine G.cond (b := decide (n < 1) || decide (n > 64)) rfl (fun h2 => ?_) (fun h2 => ?_)
  · refine G.seqR tfine rfl trivial ?_
    refine G.ret (endK.ret rfl ?_)
    rw [faultM, if_neg (fne h1), if_pos h2]
  refine G.seqR tfine rfl trivial ?_
  refine G.cond (b := decide ((lv.length : Int) < 2)) rfl (fun h5 => ?_) (fun h5 => ?_)
  · refine G.seqR tfine rfl trivial ?_
    refine G.ret (endK.ret rfl ?_)
    rw [faultM, if_neg (fne h1), if_neg (fne h2), if_pos h5]
  have hlv : 2 ≤ lv.length := by have := of_decide_eq_false h5; omega
  refine G.seqR tfine rfl trivial ?_
  refine G.cond (b := decide ((lv.length : Int) > 128)) rfl (fun h6 => ?_) (fun h6 => ?_)
  · refine G.seqR tfine rfl trivial ?_
    refine G.ret (endK.ret rfl ?_)
    rw [faultM, if_neg (fne h1), if_neg (fne h2), if_neg (fne h5), if_pos h6]
  have hw2 : IntKind.i64.wrap ((lv.length : Int) - 1) = ((lv.length - 1 : Nat) : Int) := by rw [show (lv.length : Int) - 1 = ((lv.length - 1 : Nat) : Int) by omega]; exact IntWalk.i64_in _ (by omega)
  refine G.seqC tfine rfl trivial ?_
  refine GO.callPlain (v := .bool (!(stDown lv))) rfl rfl rfl rfl (fun args w => Tryz.call62 args w) (fun ρ w hs hok => ordered_any B d lv w (hs.row (cap := d) rfl (hok _ List.mem_cons_self)) hl2 (by omega)) ?_
  refine GO.fin tfine rfl ?_ ?_
  · simp only [AllP, condB, hw2]
    and_intros <;> first | trivial | (intros; omega) | (intros; assumption) | (intros; simp_all; done)
  refine G.cond (b := (!(!(stDown lv)) || lv.getD 0 0 != 0) || lv.getD (IntKind.i64.wrap ((lv.length : Int) - 1)).toNat 0 != (depthM s pos l decl).1) rfl (fun h7 => ?_) (fun h7 => ?_)
  · rw [hw2, Int.toNat_natCast] at h7
    refine G.seqR tfine rfl trivial ?_
    refine G.ret (endK.ret rfl ?_)
    rw [faultM, if_neg (fne h1), if_neg (fne h2), if_neg (fne h5), if_neg (fne h6), if_pos (show ((!(!(stDown lv)) || lv.getD 0 0 != 0) || lastI lv != (depthM s pos l decl).1) = true from h7)]
  rw [hw2, Int.toNat_natCast] at h7
  refine G.skip ?_
  refine G.seqR tfine rfl trivial ?_
  refine G.ret (endK.ret rfl ?_)
  rw [faultM, if_neg (fne h1), if_neg (fne h2), if_neg (fne h5), if_neg (fne h6), if_neg (show ¬ ((!(!(stDown lv)) || lv.getD 0 0 != 0) || lastI lv != (depthM s pos l decl).1) = true from fne h7)]
end Go.Proofs.YtphipfmidfoflaaGreat
/- Top: the marks of lying casks. -/
set_option linter.unusedVariables false
set_option linter.unusedSimpArgs false
set_option maxRecDepth 8000
set_option maxHeartbeats 2000000
namespace Go.Proofs.YtphipfmidfoflaaGreat
open Go.Sx Go.RowKit
def bE (s : ByteArray) (pos : Int) (l : List (Int × Int)) (decl : Int) (p lv : List Int) (k : Nat) : Int × Int × Int := lyBet s pos l decl p [lv.getD k 0, lv.getD (k + 1) 0] (depthM s pos l decl).1
def liX (a : List (Int × Int)) (b : Int × Int × Int) (k : Nat) : Int × Int := (IntKind.i64.wrap ((pt a (0 + (IntKind.i64.wrap (((k + 1 : Nat) : Int) - 1)).toNat)).1 + b.1), IntKind.i64.wrap ((pt a (0 + (IntKind.i64.wrap (((k + 1 : Nat) : Int) - 1)).toNat)).2 + b.2.1))
def liL (s : ByteArray) (pos : Int) (l : List (Int × Int)) (decl : Int) (p lv : List Int) : Nat → List (Int × Int)
  | 0 => [(0, 0)]
  | k + 1 => liL s pos l decl p lv k ++ [liX (liL s pos l decl p lv k) (bE s pos l decl p lv k) k]
theorem liL_len (s : ByteArray) (pos : Int) (l : List (Int × Int)) (decl : Int) (p lv : List Int) : ∀ k, (liL s pos l decl p lv k).length = k + 1
  | 0 => rfl
  | k + 1 => by rw [liL, List.length_append, liL_len s pos l decl p lv k]; rfl
def PrAns (w w' : World) (o : List (Int × Int)) (er : Int) (e : Ending) : Prop := ∃ u : Option Addr × Nat, e = .returned (.tuple #[.slice u.1 o.length u.2, I er]) ∧ Below w.heap.size w w' ∧ RdRow w' u.1 o.length 2 (elP o) ∧ (∀ k, sb (.slice u.1 o.length u.2) k → w.heap.size ≤ k ∧ k < w'.heap.size) ∧ Steady (sb (.slice u.1 o.length u.2)) (fun w => RdRow w u.1 o.length 2 (elP o))
theorem retPr {P : Program} {T : Tab} (hT : Tab.fine P T) {w : World} {N : Nat} {fn : Func} {st : St} {er : Int} {o : List (Int × Int)} {g c : Nat} (X : Nat) (hX : st.m X = some (.say (· = g) fun w => RdRow w (some ⟨g, 0, none⟩) o.length 2 (elP o))) (hg : w.heap.size ≤ g ∨ (X, g) ∈ ([] : List (Nat × Nat)))
    (hv : resP T st fn.results.toList = .mk (.tuple #[.slice (some ⟨g, 0, none⟩) o.length c, I er])) : retK P ⟨w, [], N, none, []⟩ fn (fun e w' => PrAns w w' o er e) .ret st :=
  ⟨.inl rfl, fun ρ a w' hs => ⟨_, results_run hT hs hv, ⟨(some ⟨g, 0, none⟩, c), rfl, hs.mem.fr.toBelow, (hs.mem.ok X _ hX).1, fun k hk => by
    obtain ⟨_, a, e, rfl⟩ := hk
    injection e with e
    rw [← e]
    exact ⟨hg.elim id (fun h => by cases h), (hs.mem.ok X _ hX).2.1 g rfl⟩, steady_row⟩⟩⟩
theorem elI_two (lv : List Int) (k : Nat) : ∀ i, i < 2 → elI [lv.getD k 0, lv.getD (k + 1) 0] i = elI lv (k + i) := by
  intro i hi
  match i, hi with
  | 0, _ => rfl
  | 1, _ => rfl
theorem dipLies_any (s : ByteArray) (pos : Int) (A : Option Addr) (c : Nat) (l : List (Int × Int)) (decl : Int) (B : Option Addr) (d : Nat) (lv : List Int) (n : Int) (w : World) (h3 : RdRow w A l.length 2 (elP l)) (h4 : RdRow w B lv.length 1 (elI lv)) (hn : l.length ≤ 100000) (hl1 : 1 ≤ lv.length) (hl2 : lv.length ≤ 100000) (hd : lv.length ≤ d)
    (h5 : (slicesM l n).2 = 0) (h6 : ∀ k, k + 1 < lv.length → (bE s pos l decl (slicesM l n).1 lv k).2.2 = 0) :
    Calls Tryz.prog 35 #[.agg #[.string s, I pos, .slice A l.length c, I decl], .slice B lv.length d, I n] w fun e w' => PrAns w w' (liL s pos l decl (slicesM l n).1 lv (lv.length - 1)) 0 e := by
  refine enterSay [] [.agg [.k (.string s), .k (I pos), .k (.slice A l.length c), .k (I decl)], .c (.k (.slice B lv.length d)), .c (.k (I n))]
    [(801, .say (sb (.slice A l.length c)) (fun w => RdRow w A l.length 2 (elP l))), (802, .say (sb (.slice B lv.length d)) (fun w => RdRow w B lv.length 1 (elI lv)))] Tryz.func35 rfl 66 Tryz.ntmps35 rfl rfl ⟨⟨trivial, trivial, trivial, trivial, trivial⟩, trivial, trivial, trivial⟩
    ⟨⟨h3, sb_lt h3, steady_row⟩, ⟨fun h => h.elim, fun h => h.elim, trivial⟩, ⟨h4, sb_lt h4, steady_row⟩, trivial, trivial⟩ ?_
  refine G.openSay 802 806 1 rfl (fun _ h => h) (fun _ h => h) rfl rfl rfl ?_
  refine G.seqR tfine rfl trivial ?_
  refine G.seqC tfine rfl trivial ?_
  obtain ⟨p, hp⟩ : ∃ p, p = (slicesM l n).1 := ⟨_, rfl⟩
  have hpl : p.length ≤ 65 := by rw [hp]; exact slicesM_len l n
  rw [← hp] at h6 ⊢
  refine GO.callSay 812 (fun u : Option Addr × Nat => .tuple #[.slice u.1 p.length u.2, I 0]) (fun u => sb (.slice u.1 p.length u.2)) (fun u w => RdRow w u.1 p.length 1 (elI p)) rfl rfl rfl rfl rfl (fun args w => Tryz.call56 args w) (fun ρ w hs hok => ?_) fun u => ?_
  · have := slices_any A c l n w (hs.ok 801 _ rfl).1 hn
    rw [← hp, h5] at this
    exact this
  refine GO.fin tfine rfl trivial ?_
  refine G.seq ?_
  refine G.seqR tfine rfl trivial ?_
  refine G.cond_false rfl ?_
  refine G.skip ?_
  refine G.seqR tfine rfl trivial ?_
  refine G.accOne (vs := [I 0, I 0]) (sz := 2) 25 64 10 rfl rfl rfl rfl rfl rfl ?_
  refine G.seq (G.seqR tfine rfl trivial ?_)
  refine G.block (G.loop (fun z : Nat × Nat => St.of [(1, .v (.c (.inp 806 B lv.length d))), (3, .v (.c (.ptr 3 0 0 0))), (8, .v (.c (.k (.slice u.1 p.length u.2)))), (10, .v (.c (.slc 64 0 2 (liL s pos l decl p lv z.1).length z.2))), (11, .v (.c (.k (I (z.1 + 1 : Nat)))))]
      [(801, .say (sb (.slice A l.length c)) (fun w => RdRow w A l.length 2 (elP l))), (802, .say (sb (.slice B lv.length d)) (fun w => RdRow w B lv.length 1 (elI lv))), (812, .say (sb (.slice u.1 p.length u.2)) (fun w => RdRow w u.1 p.length 1 (elI p))), (806, .ro 1 lv.length (elI lv)), (3, .var 24 [.k (.string s), .k (I pos), .k (.slice A l.length c), .k (I decl)]), (64, .arr 33 2 (liL s pos l decl p lv z.1).length (elP (liL s pos l decl p lv z.1)) ((z.2 - (liL s pos l decl p lv z.1).length) * 2))])
    (fun z => z.1 + 1 ≤ lv.length ∧ (liL s pos l decl p lv z.1).length ≤ z.2) (fun z => lv.length - z.1) (0, 1) ⟨hl1, Nat.le_refl _⟩
    (St.le_of rfl ⟨⟨_, rfl, Blk.le_refl _⟩, ⟨_, rfl, Blk.le_refl _⟩, ⟨_, rfl, Blk.le_refl _⟩, ⟨_, rfl, Blk.le_refl _⟩, ⟨_, rfl, Blk.le_refl _⟩, ⟨_, rfl, rfl, rfl, Nat.le_refl _, fun j hj => by
      have hj : j < 1 := hj
      have : j = 0 := by omega
      subst this
      rfl, Nat.le_refl _⟩, trivial⟩ ⟨rfl, rfl, rfl, rfl, rfl, trivial⟩) ?_)
  rintro ⟨k, c2⟩ ⟨hk, hc2⟩
  simp only at hk hc2
  have hal := liL_len s pos l decl p lv k
  refine G.seq ?_
  refine G.seqR tfine rfl trivial ?_
  refine G.cond (b := decide (((k + 1 : Nat) : Int) < (lv.length : Int))) rfl (fun h7 => ?_) (fun h7 => ?_)
  rotate_left
  · have h7 := of_decide_eq_false h7
    have hkl : k = lv.length - 1 := by omega
    subst hkl
    refine G.exit ?_
    refine G.freezeArr 64 10 rfl rfl (Nat.le_refl _) fun g hg => ?_
    refine G.seqR tfine rfl trivial ?_
    exact G.ret (retPr tfine 64 rfl hg rfl)
  have h7 := of_decide_eq_true h7
  have hlt : k + 1 < lv.length := by omega
  have hw1 : IntKind.i64.wrap (((k + 1 : Nat) : Int) - 1) = (k : Int) := by rw [show (((k + 1 : Nat) : Int) - 1) = (k : Int) by omega]; exact IntWalk.i64_in _ (by omega)
  have hw2 : IntKind.i64.wrap (((k + 1 : Nat) : Int) + 1) = ((k + 2 : Nat) : Int) := by rw [show (((k + 1 : Nat) : Int) + 1) = ((k + 2 : Nat) : Int) by omega]; exact IntWalk.i64_in _ (by omega)
  refine G.skip ?_
  refine G.seq (G.block ?_)
  obtain ⟨a, ha⟩ : ∃ a, a = liL s pos l decl p lv k := ⟨_, rfl⟩
  obtain ⟨b, hb⟩ : ∃ b, b = bE s pos l decl p lv k := ⟨_, rfl⟩
  rw [← ha] at hal hc2 ⊢
  refine G.seqDraw hmix [0, 0, 0, 0, 8, 0, 32, 124, 255, 511, 1023, 1023, 0, 6143, 16383] [(13, 12)] rfl rfl rfl ?_
  refine GD.more tfine 0 rfl rfl ?_ ?_
  · simp only [AllP, hw1, hw2]
    and_intros <;> first | trivial | omega
  refine GD.call (v := .tuple #[.agg #[I b.1, I b.2.1], I 0]) 8 rfl rfl rfl rfl rfl (fun args w => Tryz.call63 args w) (fun m hle ρ w hs hok => ?_) ?_
  · have h8 : RdRow w (some ⟨(ρ 806).1, (ρ 806).2 + k * 1, none⟩) 2 1 (fun i => elI lv (k + i)) := hs.rdRo (x := 806) (n := lv.length) (el := elI lv) (LeM.at hle rfl) k 2 (by omega)
    have := lyBetween_any s pos A c l decl u.1 u.2 p (some ⟨(ρ 806).1, (ρ 806).2 + k * 1, none⟩) (d - k) [lv.getD k 0, lv.getD (k + 1) 0] w (hs.ok 801 _ (LeM.at hle rfl)).1 (hs.ok 812 _ (LeM.at hle rfl)).1 (h8.congr (elI_two lv k)) hn (by omega) (by simp)
    show Calls _ _ #[_, _, .slice (some ⟨(ρ 806).1, (ρ 806).2 + (IntKind.i64.wrap (((k + 1 : Nat) : Int) - 1)).toNat * 1, none⟩) ((IntKind.i64.wrap (((k + 1 : Nat) : Int) + 1)).toNat - (IntKind.i64.wrap (((k + 1 : Nat) : Int) - 1)).toNat) (d - (IntKind.i64.wrap (((k + 1 : Nat) : Int) - 1)).toNat)] w _
    rw [hw1, hw2, Int.toNat_natCast, Int.toNat_natCast, show k + 2 - k = 2 by omega, ← h6 k hlt, hb]
    exact this
  refine GD.fin tfine 9 rfl rfl trivial ?_
  refine G.seq ?_
  refine G.seqR tfine rfl trivial ?_
  refine G.cond_false rfl ?_
  refine G.skip ?_
  refine G.seqR tfine rfl ?_ ?_
  · simp only [AllP, hw1, hal]
    and_intros <;> first | trivial | omega
  refine G.regC tfine rfl trivial ?_
  have hst : liL s pos l decl p lv (k + 1) = a ++ [liX a b k] := by rw [liL, ← ha, ← hb]
  refine GO.appendOwn (x := 64) (n := a.length) (c := c2) (el := elP a) [I (liX a b k).1, I (liX a b k).2] [(1, .v (.c (.inp 806 B lv.length d))), (3, .v (.c (.ptr 3 0 0 0))), (8, .v (.c (.k (.slice u.1 p.length u.2)))), (11, .v (.c (.k (I (k + 1 : Nat)))))]
      [(801, .say (sb (.slice A l.length c)) (fun w => RdRow w A l.length 2 (elP l))), (802, .say (sb (.slice B lv.length d)) (fun w => RdRow w B lv.length 1 (elI lv))), (812, .say (sb (.slice u.1 p.length u.2)) (fun w => RdRow w u.1 p.length 1 (elI p))), (806, .ro 1 lv.length (elI lv)), (3, .var 24 [.k (.string s), .k (I pos), .k (.slice A l.length c), .k (I decl)])] apB rfl rfl rfl rfl rfl rfl rfl rfl (Nat.le_refl _) rfl rfl rfl (fun u hu => by simp at hu; rcases hu with rfl | rfl <;> rfl)
      (St.le_of rfl ⟨⟨_, rfl, Blk.le_refl _⟩, ⟨_, rfl, Blk.le_refl _⟩, ⟨_, rfl, Blk.le_refl _⟩, ⟨_, rfl, Blk.le_refl _⟩, ⟨_, rfl, Blk.le_refl _⟩, trivial⟩ ⟨rfl, rfl, rfl, rfl, trivial⟩) (subM.fr (x := 64) ⟨rfl, (by decide : (801 : Nat) ≠ 64), rfl, (by decide : (802 : Nat) ≠ 64), rfl, (by decide : (812 : Nat) ≠ 64), rfl, (by decide : (806 : Nat) ≠ 64), rfl, (by decide : (3 : Nat) ≠ 64), trivial⟩) rfl (fun k hk => rfl) (by unfold maxLen; omega) (by omega) fun c' hc' => ?_
  refine GO.fin tfine rfl trivial ?_
  refine G.reg tfine rfl trivial ?_
  refine ⟨(k + 1, c'), ⟨hlt, ?_⟩, (by show lv.length - (k + 1) < lv.length - k; omega), ?_⟩
  · show (liL s pos l decl p lv (k + 1)).length ≤ c'
    rw [hst]; simpa using hc'
  show St.le _ (St.of [(1, .v (.c (.inp 806 B lv.length d))), (3, .v (.c (.ptr 3 0 0 0))), (8, .v (.c (.k (.slice u.1 p.length u.2)))), (10, .v (.c (.slc 64 0 2 (liL s pos l decl p lv (k + 1)).length c'))), (11, .v (.c (.k (I (k + 1 + 1 : Nat)))))]
      [(801, .say (sb (.slice A l.length c)) (fun w => RdRow w A l.length 2 (elP l))), (802, .say (sb (.slice B lv.length d)) (fun w => RdRow w B lv.length 1 (elI lv))), (812, .say (sb (.slice u.1 p.length u.2)) (fun w => RdRow w u.1 p.length 1 (elI p))), (806, .ro 1 lv.length (elI lv)), (3, .var 24 [.k (.string s), .k (I pos), .k (.slice A l.length c), .k (I decl)]), (64, .arr 33 2 (liL s pos l decl p lv (k + 1)).length (elP (liL s pos l decl p lv (k + 1))) ((c' - (liL s pos l decl p lv (k + 1)).length) * 2))]) _
  rw [hst, show (a ++ [liX a b k]).length = a.length + 1 by simp]
  refine St.le_of rfl ⟨⟨_, rfl, Blk.le_refl _⟩, ⟨_, rfl, Blk.le_refl _⟩, ⟨_, rfl, Blk.le_refl _⟩, ⟨_, rfl, Blk.le_refl _⟩, ⟨_, rfl, Blk.le_refl _⟩, ⟨_, rfl, rfl, rfl, Nat.le_refl _, fun j hj => (elP_snoc a _ j hj).symm, Nat.le_refl _⟩, trivial⟩ ⟨rfl, rfl, rfl, rfl, ?_, trivial⟩
  show TV.v (.c (.k (I (IntKind.i64.wrap (((k + 1 : Nat) : Int) + 1))))) = _
  rw [hw2]
end Go.Proofs.YtphipfmidfoflaaGreat
/- The symbolic executor, part BH: maps with known entries: made, filled, asked. Generic over P. -/
set_option linter.unusedVariables false
set_option linter.unusedSimpArgs false
namespace Go.Sx
open Go.RowKit
structure MpK (P : Program) (t kt : TypeId) : Prop where
  hm : ∃ et, P.underlying t = some (.map kt et)
  hk : P.underlying kt = some (.int .i64)
/-- A map with just these entries, in the order in which they were put. -/
def KMap (l : List (Int × Value)) (o : Obj) : Prop := ∃ es clock, o = .map es clock ∧ es.toList.map (fun e => (e.key, e.val)) = l.map fun p => (Value.int .i64 p.1, p.2)
def getK (l : List (Int × Value)) (n : Int) : Option Value := match l with
  | [] => none
  | p :: r => if n = p.1 then some p.2 else getK r n
theorem findNow_k (n : Int) : ∀ (es : List MapEntry) (l : List (Int × Value)) (i : Nat), es.map (fun e => (e.key, e.val)) = l.map (fun p => (Value.int .i64 p.1, p.2)) →
    (getK l n = none → Instr.findNow (.int .i64) (.int .i64 n) es i = some none) ∧ ∀ v, getK l n = some v → ∃ j, Instr.findNow (.int .i64) (.int .i64 n) es i = some (some (j, v)) := by
  intro es
  induction es with
  | nil =>
    intro l i h
    cases l with
    | nil => exact ⟨fun _ => rfl, fun v hv => by cases hv⟩
    | cons p r => cases h
  | cons a r ih =>
    intro l i h
    cases l with
    | nil => cases h
    | cons p q =>
      simp only [List.map_cons, List.cons.injEq, Prod.mk.injEq] at h
      obtain ⟨⟨h1, h2⟩, h3⟩ := h
      have h4 : Instr.sameNow (.int .i64) (.int .i64 n) a.key = some (n == p.1) := by rw [h1]; simp [Instr.sameNow]
      by_cases e : n = p.1
      · have e' : (n == p.1) = true := by simp [e]
        refine ⟨fun hn => by simp [getK, e] at hn, fun v hv => ⟨i, ?_⟩⟩
        rw [getK, if_pos e] at hv
        injection hv with hv
        rw [Instr.findNow, h4, e', h2, hv]
      · have e' : (n == p.1) = false := by simp [e]
        have h5 : Instr.findNow (.int .i64) (.int .i64 n) (a :: r) i = Instr.findNow (.int .i64) (.int .i64 n) r (i + 1) := by rw [Instr.findNow, h4, e']
        rw [h5, getK, if_neg e]
        exact ih q (i + 1) h3
section
variable {P : Program} {t kt : TypeId} {w : World} {r : Nat} {l : List (Int × Value)} {o : Obj}
theorem run_lookup_k (hp : MpK P t kt) (hb : w.heap[r]? = some o) (ho : KMap l o) {n : Int} {v : Value} (hv : getK l n = some v) : (Instr.lookup t (.map (some r)) (.int .i64 n) false).run P w = .ok v w := by
  obtain ⟨es, clock, rfl, h1⟩ := ho
  obtain ⟨et, hm⟩ := hp.hm
  have hc : ∀ em, (Instr.checkKey em 10000 kt (.int .i64 n)).run P w = .ok () w := fun em => MapKept.run_checkKey hp.hk (by trivial) em 9999
  obtain ⟨j, k1⟩ := (findNow_k n es.toList l 0 h1).2 v hv
  simp [Instr.lookup, run_underlying hm, MapKept.run_getObj_map hb, hc, MapKept.run_findKey hp.hk k1, Result.andThen]
theorem run_update_k (hp : MpK P t kt) (hb : w.heap[r]? = some o) (ho : KMap l o) {n : Int} {v : Value} (hn : getK l n = none) :
    ∃ o', (Instr.mapUpdate t (.map (some r)) (.int .i64 n) v).run P w = .ok () { w with heap := w.heap.setIfInBounds r o' } ∧ KMap (l ++ [(n, v)]) o' := by
  obtain ⟨es, clock, rfl, h1⟩ := ho
  obtain ⟨et, hm⟩ := hp.hm
  have hc : ∀ em, (Instr.checkKey em 10000 kt (.int .i64 n)).run P w = .ok () w := fun em => MapKept.run_checkKey hp.hk (by trivial) em 9999
  have k1 := (findNow_k n es.toList l 0 h1).1 hn
  refine ⟨.map (es.push ⟨.int .i64 n, v, clock⟩) (clock + 1), ?_, _, _, rfl, ?_⟩
  · simp [Instr.mapUpdate, run_underlying hm, MapKept.run_getObj_map hb, hc, MapKept.run_findKey hp.hk k1, MapKept.run_setObj_map _ hb, Result.andThen]
  · simp [h1]
end
section
variable {P : Program} {E : Env} {K : Exit → St → Prop} {T : Tab}
theorem GO.makeMapK {ops : Array Oper} {rest : List Oper} {o : Oper} {t d : Nat} {t0 : Nat → TV} {m : Mem} (hg : o.guard = none) (hop : o.op = .makeMap t none) (hd : o.dst = some d) (hdN : Nat.blt d E.N = true) (hx : m d = none) (hxb : Nat.blt d 1000 = true)
    (k : GO P E ops K rest ⟨up t0 d (.v (.c (.mp d))), up m d (some (.obj (KMap [])))⟩) : GO P E ops K (o :: rest) ⟨t0, m⟩ := by
  intro ρ a w hs
  have hrun : (execOp a.eval o).run P w = .ok (.value (.map (some w.heap.size))) (w.alloc (.map #[] 0)) := by
    simp [execOp, hop, Instr.makeMap]
  unfold wpL
  rw [if_pos (by simp [Region.wanted, hg])]
  refine .inl ?_
  have hxb : d < 1000 := by simpa [Nat.blt_eq] using hxb
  refine Snd.go hs (fun n hn => by rw [hd] at hn; injection hn with hn; subst hn; simpa [Nat.blt_eq] using hdN) (tv := .v (.c (.mp d)))
    (Snd.new hx (hs.mem.alloc hx hxb (.obj (KMap [])) (.map #[] 0) trivial fun ρ' h1 h2 => ⟨by rw [h2], .inl (by rw [h2]; exact hs.mem.fr.size), .map #[] 0, by rw [h2]; exact heap_alloc_new _ _, #[], 0, rfl, rfl⟩) hrun ⟨by simp [AV.ok, AC.ok, up_same], by simp [AV.conc, AC.conc, up_same]⟩) fun ρ' a' w' hs' => k ρ' a' w' ?_
  rw [hd] at hs'
  exact hs'
theorem Steps.insertK {ops : Array Oper} {o : Oper} {t kt : Nat} {y i z : Operand} {C : St} (x : Nat) (l : List (Int × Value)) (n : Int) (v : Value) (hp : MpK P t kt) (hg : o.guard = none) (hop : o.op = .insert t y i z) (hd : o.dst = none)
    (hy : evT C.t y = .v (.c (.mp x))) (hi : evT C.t i = .v (.c (.k (.int .i64 n)))) (hz : evT C.t z = .v (.c (.k v))) (hx : C.m x = some (.obj (KMap l))) (hn : getK l n = none) : Steps P E ops o C .unk [(x, .obj (KMap (l ++ [(n, v)])))] := by
  intro st hle ρ a w hs Kc Q hk
  have hs' := hs.weakT hle.t
  rw [if_pos (by simp [Region.wanted, hg])]
  have e1 : a.eval y = .map (some (ρ x).1) := by have := hs'.eval y; rw [show (St.mk C.t st.m).ev y = .v (.c (.mp x)) from hy] at this; exact this.2
  have e2 : a.eval i = .int .i64 n := by have := hs'.eval i; rw [show (St.mk C.t st.m).ev i = .v (.c (.k (.int .i64 n))) from hi] at this; exact this.2
  have e3 : a.eval z = v := by have := hs'.eval z; rw [show (St.mk C.t st.m).ev z = .v (.c (.k v)) from hz] at this; exact this.2
  have hx2 : st.m x = some (.obj (KMap l)) := by
    rcases hle.m x with h | h
    · rw [hx] at h; cases h
    · exact h.trans hx
  obtain ⟨ob, h1, h2⟩ := Sat.mapAt hs.mem hx2
  obtain ⟨o', h3, h4⟩ := run_update_k (v := v) hp h1 h2 hn
  have hrun : (execOp a.eval o).run P w = .ok .skip { w with heap := w.heap.setIfInBounds (ρ x).1 o' } := by
    simp [execOp, hop, e1, e2, e3, h3, Result.andThen]
  have hk0 := hs.mem.ok x _ hx2
  have hlt := lt_of_heap h1
  have hmem : SatM E ρ (up st.m x (some (.obj (KMap (l ++ [(n, v)]))))) { w with heap := w.heap.setIfInBounds (ρ x).1 o' } := by
    refine hs.mem.put hx2 trivial trivial ⟨hs.mem.fr.os, hs.mem.fr.tape, hs.mem.fr.output, by simpa using hs.mem.fr.size, fun g hg1 hg2 => ?_⟩ (by simp) (fun g hg => ?_) ⟨hk0.1, hk0.2.1, o', ?_, h4⟩
    · have hne : (ρ x).1 ≠ g := by
        rcases mem_bor hk0.2.1 with h | h
        · omega
        · exact fun e => hg2 (e ▸ h)
      simp only [Array.getElem?_setIfInBounds_ne hne]
      exact hs.mem.fr.block g hg1 hg2
    · simp only [Array.getElem?_setIfInBounds_ne (Ne.symm hg)]
    · simp [Array.getElem?_setIfInBounds, hlt]
  have hsome : ∀ z, (st.m z).isSome = true → (up st.m x (some (.obj (KMap (l ++ [(n, v)])))) z).isSome = true := fun z hz => isSome_up z hz
  refine .inl ?_
  unfold Oper.wp
  rw [hrun]
  refine hk ρ _ _ ?_
  rw [upm_one]
  exact (hs.move hmem hsome fun _ _ => rfl).putT (fun q hq => by rw [hd] at hq; cases hq) (tv := .unk) trivial
theorem GO.insertK {ops : Array Oper} {rest : List Oper} {o : Oper} {t kt : Nat} {y i z : Operand} {t0 : Nat → TV} {m : Mem} (x : Nat) (l : List (Int × Value)) (n : Int) (v : Value) (hp : MpK P t kt) (hg : o.guard = none) (hop : o.op = .insert t y i z) (hd : o.dst = none)
    (hy : evT t0 y = .v (.c (.mp x))) (hi : evT t0 i = .v (.c (.k (.int .i64 n)))) (hz : evT t0 z = .v (.c (.k v))) (hx : m x = some (.obj (KMap l))) (hn : getK l n = none)
    (k : GO P E ops K rest ⟨t0, up m x (some (.obj (KMap (l ++ [(n, v)]))))⟩) : GO P E ops K (o :: rest) ⟨t0, m⟩ := by
  refine GO.steps (Steps.insertK (C := ⟨t0, m⟩) x l n v hp hg hop hd hy hi hz hx hn) ?_
  rw [hd, upm_one]
  exact k
theorem GO.lookupK {ops : Array Oper} {rest : List Oper} {o : Oper} {t kt : Nat} {y i : Operand} {t0 : Nat → TV} {m : Mem} (x : Nat) (l : List (Int × Value)) (n : Int) (v : Value) (hp : MpK P t kt) (hg : o.guard = none) (hop : o.op = .lookup t y i false)
    (hy : evT t0 y = .v (.c (.mp x))) (hi : evT t0 i = .v (.c (.k (.int .i64 n)))) (hx : m x = some (.obj (KMap l))) (hv : getK l n = some v) (hd : dstOk E.N o.dst = true)
    (k : GO P E ops K rest ⟨Sx.putT t0 o.dst (.v (.c (.k v))), m⟩) : GO P E ops K (o :: rest) ⟨t0, m⟩ := by
  refine GO.steps (tv := .v (.c (.k v))) (ms := []) ?_ k
  intro st hle ρ a w hs Kc Q hk
  have hs' := hs.weakT hle.t
  rw [if_pos (by simp [Region.wanted, hg])]
  have e1 : a.eval y = .map (some (ρ x).1) := by have := hs'.eval y; rw [show (St.mk t0 st.m).ev y = .v (.c (.mp x)) from hy] at this; exact this.2
  have e2 : a.eval i = .int .i64 n := by have := hs'.eval i; rw [show (St.mk t0 st.m).ev i = .v (.c (.k (.int .i64 n))) from hi] at this; exact this.2
  have hx2 : st.m x = some (.obj (KMap l)) := by
    rcases hle.m x with h | h
    · rw [show (St.mk t0 m).m x = m x from rfl, hx] at h; cases h
    · exact h.trans hx
  obtain ⟨ob, h1, h2⟩ := Sat.mapAt hs.mem hx2
  have hrun : (execOp a.eval o).run P w = .ok (.value v) w := by
    simp [execOp, hop, e1, e2, run_lookup_k hp h1 h2 hv, Result.andThen]
  refine .inl ?_
  exact Snd.go hs (dstOk_lt hd) (tv := .v (.c (.k v))) (Snd.here hs.mem (v := v) hrun ⟨trivial, rfl⟩) fun ρ' a' w' hs'' => hk ρ' a' w' hs''
end
end Go.Sx
/- The symbolic executor, part BI: append onto a row that is told of as a constant, in a region that draws. Generic over P. -/
set_option linter.unusedVariables false
set_option linter.unusedSimpArgs false
namespace Go.Sx
open Go.RowKit
section
variable {P : Program} {E : Env} {K : Exit → St → Prop} {T : Tab} {ops : Array Oper}
/-- The row that grows, as a choice. -/
def adrV : Value → Option Addr
  | .slice A _ _ => A
  | _ => none
def cpV : Value → Nat
  | .slice _ _ c => c
  | _ => 0
def growF (X n : Nat) (R' : Cho → World → Prop) : Fam := ⟨fun u => .v (.c (.k (.slice (adrV u.1) n (cpV u.1)))), fun u => [(X, .say u.2 (R' u))], [X], true⟩
theorem StepsC.appendSay {o : Oper} {s y : Operand} {t e size bytes d n c : Nat} {z : Value} {C : St} {A : Option Addr} {el : Nat → List Value} {q c1 : Nat} {ty1 : TypeId} {S : Nat → Prop} {R : World → Prop} (X : Nat) (vs : List Value) (R' : Cho → World → Prop) (hp : ApT P t e size bytes z) (hg : o.guard = none) (hop : o.op = .call { callee := .builtin .append, args := #[s, y], argTypes := #[t, t] })
    (hd : o.dst = some d) (hdN : Nat.blt d E.N = true) (hs : evT C.t s = .v (.c (.k (.slice A n c)))) (hX : C.m X = some (.say S R)) (hSA : ∀ k, gb A k → S k) (hRA : ∀ w, R w → GrowAt w A n c e size el) (hbo : ∀ k, gb A k → E.w0.heap.size ≤ k)
    (hap : ∀ ρ a w, Sat E ρ C a w → ∀ x b, x ≠ X → C.m x = some b → b.live → b.own ∨ ∀ k, b.hits (ρ x) k → ¬ S k)
    (hy : evT C.t y = .v (.c (.slc q 0 size 1 c1))) (hq : C.m q = some (.var ty1 (vs.map .k))) (hv : vs.length = size) (h1 : ∀ u ∈ vs, u.oneCell' = true)
    (hlen : ∀ k, k < n → (el k).length = size) (b1 : n + 1 ≤ maxLen) (b2 : (n + 1) * bytes ≤ 140737488355328)
    (hR' : ∀ ρ a w, Sat E ρ C a w → ∀ g c' w', n + 1 ≤ c' → (A = some ⟨g, 0, none⟩ ∨ w.heap.size ≤ g) → g < w'.heap.size → w.heap.size ≤ w'.heap.size → GrowAt w' (some ⟨g, 0, none⟩) (n + 1) c' e size (elN el n vs) → R' (.slice (some ⟨g, 0, none⟩) (n + 1) c', gb (some ⟨g, 0, none⟩)) w') (hst : ∀ i, Steady i.2 (R' i)) :
    StepsC P E ops o C (growF X (n + 1) R') := by
  intro st hle hfull ρ a w hsat0 Kc Q hk
  have hm : st.m = C.m := hfull rfl
  have hs' := hsat0.weakT hle.t
  have hsat : Sat E ρ C a w := by
    have : (⟨C.t, st.m⟩ : St) = C := by rw [hm]
    rw [← this]; exact hs'
  have es : a.eval s = .slice A n c := by have := hsat.eval s; simp only [St.ev, hs] at this; exact this.2
  have hvar := hsat.mem.ok q _ hq
  have ey : a.eval y = .slice (some ⟨(ρ q).1, 0, none⟩) 1 c1 := by
    have := hsat.eval y
    simp only [St.ev, hy] at this
    have := this.2
    simpa [AV.conc, AC.conc, hvar.1] using this
  have hqc := hvar.2.2.1
  rw [map_conc_k] at hqc
  obtain ⟨x1, x2, x3⟩ := hsat.mem.ok X _ hX
  obtain ⟨g, c', w', r0, hrun, r1, r2, r3, r4, r5, r6, r7⟩ := append_at (ty := o.type) (c1 := c1) hp (hRA w x1) hqc hv h1 hlen b1 b2
  have hex : (execOp a.eval o).run P w = .ok (.value (.slice (some ⟨g, 0, none⟩) (n + 1) c')) w' := by
    simp [execOp, hop, resolve, invoke, builtin, es, ey, hrun, Result.andThen]
  rw [if_pos (by simp [Region.wanted, hg])]
  refine .inl ?_
  unfold Oper.wp
  rw [hex]
  have hgr : GrowAt w' (some ⟨g, 0, none⟩) (n + 1) c' e size (elN el n vs) := .inr ⟨g, rfl, r7, r0⟩
  have hlt : g < w'.heap.size := hgr.lt g ⟨_, rfl, rfl⟩
  obtain ⟨u, hu⟩ : ∃ u : Cho, u = (.slice (some ⟨g, 0, none⟩) (n + 1) c', gb (some ⟨g, 0, none⟩)) := ⟨_, rfl⟩
  have hru : R' u w' := by rw [hu]; exact hR' ρ a w hsat g c' w' r0 r6 hlt r4 hgr
  have hsz : ∀ y, (C.m y).isSome = true → (up C.m X (some (.say u.2 (R' u))) y).isSome = true := fun y hy => isSome_up y hy
  have hfr : Fr E.w0 (E.bor.map (·.2)) w' := ⟨r1.trans hsat.mem.fr.os, r2.trans hsat.mem.fr.tape, r3.trans hsat.mem.fr.output, Nat.le_trans hsat.mem.fr.size r4, fun j hj hn => by
    refine (r5 j (Nat.lt_of_lt_of_le hj hsat.mem.fr.size) fun hgb => ?_).trans (hsat.mem.fr.block j hj hn)
    have := hbo j hgb
    omega⟩
  have hne : ∀ x b, x ≠ X → C.m x = some b → b.live → ∀ k, b.hits (ρ x) k → ¬ gb A k := by
    intro x b hx hb hlv k hk hgb
    rcases hap ρ a w hsat x b hx hb hlv with ho | h
    · rw [(Blk.own_hits ho).1 hk] at hgb
      exact hsat.mem.ne x X b _ hb hX ho trivial hx (hSA _ hgb)
    · exact h k hk (hSA k hgb)
  have hM : SatM E ρ (up C.m X (some (.say u.2 (R' u)))) w' := by
    refine hsat.mem.swap hfr r4 hsz fun x b hx => ?_
    by_cases e : x = X
    · subst e
      rw [up_same] at hx
      injection hx with hx
      subst hx
      refine .inr (.inl ⟨_, _, rfl, hru, fun k hk => ?_, hst u, fun y b hy hc ho => ?_⟩)
      · rw [hu] at hk
        obtain ⟨a', e', h'⟩ := hk
        injection e' with e'
        rw [h', ← e']; exact hlt
      rw [up_other _ _ hy] at hc
      rw [hu]
      rintro ⟨a', e', h'⟩
      injection e' with e'
      rw [← e'] at h'
      rcases r6 with h | h
      · exact hne y b hy hc (Blk.own_live ho) (ρ y).1 ((Blk.own_hits ho).2 rfl) ⟨_, h, h'⟩
      · have := hsat.mem.lt hc ho
        simp only at h'
        omega
    · rw [up_other _ _ e] at hx
      exact .inl ⟨hx, fun k hlv hk => r5 k (hsat.mem.lt' hx hlv hk) fun hgb => hne x b e hx hlv k hk hgb⟩
  refine hk u ρ _ w' ?_
  have e1 : upm st.m ((growF X (n + 1) R').ms u) = up C.m X (some (.say u.2 (R' u))) := by rw [hm]; exact upm_one _ _ _
  rw [e1]
  have hs2 : Sat E ρ ⟨st.t, C.m⟩ a w := hm ▸ hsat0
  have e2 : (Value.slice (some ⟨g, 0, none⟩) (n + 1) c') = .slice (adrV u.1) (n + 1) (cpV u.1) := by rw [hu]; rfl
  rw [e2]
  refine (hs2.remem0 hM hsz).putT (fun z hz => ?_) ⟨trivial, rfl⟩
  rw [hd] at hz
  injection hz with hz
  subst hz
  simpa [Nat.blt_eq] using hdN
theorem GD.make1 {l : List Oper} {cls : List Nat} {X : List (Nat × Nat)} {base : St} {recs : List DR} {rest : List Oper} {tt : Nat → TV} {m : Mem} {o : Oper} {ln cp : Operand} {t e bytes d : Nat} {z : Value} {kl kc : IntKind} (i n : Nat) (hi : recs.length = i) (hp : ApT P t e 1 bytes z) (hz1 : z.cells = #[z]) (hg : o.guard = none) (hop : o.op = .makeSlice t ln cp)
    (hd : o.dst = some d) (hdN : Nat.blt d E.N = true) (hdb : Nat.blt d 1000 = true) (hfree : (canF l cls X base i recs).m d = none) (hl : evT (canF l cls X base i recs).t ln = .v (.c (.k (.int kl (n : Int))))) (hc : evT (canF l cls X base i recs).t cp = .v (.c (.k (.int kc (n : Int))))) (h0 : 0 < n) (b1 : n ≤ maxLen) (b2 : bytes * n ≤ 281474976710656)
    (hw : Wok X i o [(d, .arr e 1 n (fun _ => [z]) ((n - n) * 1))] = true)
    (k : GD P E K l cls X base (⟨o, .v (.c (.slc d 0 1 n n)), [(d, .arr e 1 n (fun _ => [z]) ((n - n) * 1))]⟩ :: recs) rest (Sx.putT tt o.dst (.v (.c (.slc d 0 1 n n)))) (upm m [(d, .arr e 1 n (fun _ => [z]) ((n - n) * 1))])) : GD P E K l cls X base recs (o :: rest) tt m := by
  rw [canF_eq hi] at hfree hl hc
  exact GD.step (Steps.make1 n hp hz1 hg hop hd hdN hdb hfree hl hc h0 b1 b2) (by rw [hi]; exact hw) k
end
end Go.Sx
