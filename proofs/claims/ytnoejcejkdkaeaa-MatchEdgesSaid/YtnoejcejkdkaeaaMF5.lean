/- Chapter 37: rows of given edges as lists. -/
import Derived.Test.YtnoejcejkdkaeaaMF4
/- The symbolic executor, part AH: a row's own tail is appended to its head in place, and its rest cleared. Generic over P. -/
set_option linter.unusedVariables false
set_option linter.unusedSimpArgs false
namespace Go.Sx
open Go.RowKit
theorem mem_flatE {el : Nat → List Value} {u : Value} : ∀ (n i : Nat), u ∈ flatE el i n → ∃ q, i ≤ q ∧ q < i + n ∧ u ∈ el q
  | 0, i, h => by simp [flatE] at h
  | n + 1, i, h => by
    rw [flatE, List.mem_append] at h
    rcases h with h | h
    · exact ⟨i, Nat.le_refl _, by omega, h⟩
    · obtain ⟨q, h1, h2, h3⟩ := mem_flatE n (i + 1) h
      exact ⟨q, by omega, by omega, h3⟩
section
variable {P : Program} {E : Env} {K : Exit → St → Prop} {T : Tab}
theorem SatM.setArr {ρ : Val} {m : Mem} {w : World} (h : SatM E ρ m w) {x sz n room n2 room2 : Nat} {ty : TypeId} {el el2 : Nat → List Value} (hx : m x = some (.arr ty sz n el room)) {cur cs : Array Value} (hg : w.heap[(ρ x).1]? = some (.cells cur ty (0, 0))) (hs : n2 * sz + room2 ≤ cs.size)
    (he : ∀ i, i < n2 → (el2 i).length = sz ∧ ∀ j, j < sz → cs[i * sz + j]? = (el2 i)[j]?) : SatM E ρ (up m x (some (.arr ty sz n2 el2 room2))) (w.setRow (ρ x).1 cs) := by
  obtain ⟨h1, h2, _⟩ := h.ok x _ hx
  exact h.put hx trivial trivial (h.fr.setRow (mem_bor h2) cs) (by simp) (fun g hne => heap_setRow_ne w (ρ x).1 g cs hne) ⟨h1, h2, cs, setRow_heap w (ρ x).1 cur cs ty (0, 0) hg, hs, he⟩
theorem Steps.appendIn {ops : Array Oper} {o : Oper} {s y : Operand} {t e size bytes x n i k j c c2 : Nat} {z : Value} {C : St} {el : Nat → List Value} (el2 : Nat → List Value) (hp : ApT P t e size bytes z) (hg : o.guard = none) (hop : o.op = .call { callee := .builtin .append, args := #[s, y], argTypes := #[t, t] }) (hd : dstOk E.N o.dst = true)
    (hs : evT C.t s = .v (.c (.slc x 0 size i c))) (hy : evT C.t y = .v (.c (.slc x j size k c2))) (hx : C.m x = some (.arr e size n el 0)) (h1 : i + k ≤ c) (h2 : i + k ≤ n) (h3 : j + k ≤ n) (ho : ∀ q, q < n → ∀ u ∈ el q, u.oneCell' = true) (hel : ∀ q, q < i + k → el2 q = if q < i then el q else el (j + (q - i))) :
    Steps P E ops o C (.v (.c (.slc x 0 size (i + k) c))) [(x, .arr e size (i + k) el2 ((n - (i + k)) * size))] := by
  intro st hle ρ a w hsat Kc Q hk
  have hs' := hsat.weakT hle.t
  obtain ⟨inf, hi, hz, hsi, hbi⟩ := hp.info
  rw [if_pos (by simp [Region.wanted, hg])]
  have hx2 : st.m x = some (.arr e size n el 0) := by
    rcases hle.m x with h | h
    · rw [hx] at h; cases h
    · exact h.trans hx
  obtain ⟨hρx, hox, cur, g1, g2, g3⟩ := hsat.mem.ok x _ hx2
  have es : a.eval s = .slice (some ⟨(ρ x).1, 0, none⟩) i c := by
    have := hs'.eval s
    rw [show (St.mk C.t st.m).ev s = _ from hs] at this
    simpa [AV.conc, AC.conc, hρx] using this.2
  have ey : a.eval y = .slice (some ⟨(ρ x).1, j * size, none⟩) k c2 := by
    have := hs'.eval y
    rw [show (St.mk C.t st.m).ev y = _ from hy] at this
    simpa [AV.conc, AC.conc, hρx] using this.2
  have hlen : ∀ q, j ≤ q → q < j + k → (el q).length = size := fun q _ hq => (g3 q (by omega)).1
  have hl := flatE_len (el := el) (sz := size) k j hlen
  have hget : ∀ d, d < k * size → (flatE el j k)[d]? = cur[j * size + d]? := fun d hd => flatE_get (el := el) (sz := size) k j hlen (fun q => cur[q]?) (fun q _ hq d hd => (g3 q (by omega)).2 d hd) d hd
  have hnews : ∀ d u, (flatE el j k)[d]? = some u → w.cell? ((⟨(ρ x).1, j * size, none⟩ : Addr).add d) = some u := by
    intro d u hd
    have hlt : d < k * size := by have := (List.getElem?_eq_some_iff.1 hd).1; omega
    rw [Addr.add_lit, cell_of_heap g1, ← hget d hlt]
    exact hd
  have hone : ∀ u ∈ flatE el j k, u.oneCell' = true := fun u hu => by
    obtain ⟨q, _, hq, hu⟩ := mem_flatE k j hu
    exact ho q (by omega) u hu
  have hcs : i * size + k * size ≤ cur.size := by
    have := Nat.mul_le_mul_right size h2
    rw [Nat.add_mul] at this
    omega
  have hrun := run_append_room (P := P) w t o.type e inf hp.ht hi (ρ x).1 i c cur g1 ⟨(ρ x).1, j * size, none⟩ k c2 (flatE el j k) (by rw [hsi]; exact hl) hnews hone h1 (by rw [hsi, hl]; exact hcs)
  rw [hsi, hl] at hrun
  have hex : (execOp a.eval o).run P w = .ok (.value (.slice (some ⟨(ρ x).1, 0, none⟩) (i + k) c)) (w.setRow (ρ x).1 (cur.toList.take (i * size) ++ flatE el j k ++ cur.toList.drop (i * size + k * size)).toArray) := by
    simp only [List.append_assoc] at hrun
    simp [execOp, hop, resolve, invoke, builtin, es, ey, hrun, Result.andThen]
  have hlt0 : (List.take (i * size) cur.toList).length = i * size := by simp; omega
  have hmem := hsat.mem.setArr hx2 (n2 := i + k) (room2 := (n - (i + k)) * size) (el2 := el2) (cs := (cur.toList.take (i * size) ++ flatE el j k ++ cur.toList.drop (i * size + k * size)).toArray) g1 (by
    simp only [List.size_toArray, List.length_append, hlt0, hl, List.length_drop, Array.length_toList]
    have : (i + k) * size + (n - (i + k)) * size = n * size := by rw [← Nat.add_mul]; congr 1; omega
    rw [this]
    rw [Nat.add_zero] at g2
    omega) fun q hq => by
    rw [hel q hq]
    by_cases h : q < i
    · rw [if_pos h]
      refine ⟨(g3 q (by omega)).1, fun d hd => ?_⟩
      have hlt : q * size + d < i * size := by
        have := Nat.mul_le_mul_right size (show q + 1 ≤ i from h)
        rw [Nat.add_mul] at this
        omega
      rw [← (g3 q (by omega)).2 d hd]
      simp only [List.getElem?_toArray]
      rw [List.append_assoc, List.getElem?_append_left (by rw [hlt0]; exact hlt), List.getElem?_take, if_pos hlt]
      simp
    · rw [if_neg h]
      refine ⟨(g3 _ (by omega)).1, fun d hd => ?_⟩
      have e1 : q * size + d = i * size + ((q - i) * size + d) := by
        have : q * size = i * size + (q - i) * size := by rw [← Nat.add_mul]; congr 1; omega
        omega
      have hlt : (q - i) * size + d < k * size := by
        have := Nat.mul_le_mul_right size (show (q - i) + 1 ≤ k by omega)
        rw [Nat.add_mul] at this
        omega
      rw [← (g3 (j + (q - i)) (by omega)).2 d hd]
      simp only [List.getElem?_toArray]
      rw [List.append_assoc, List.getElem?_append_right (by rw [hlt0]; omega), hlt0, List.getElem?_append_left (by rw [hl]; omega), show q * size + d - i * size = (q - i) * size + d by omega, hget _ hlt]
      congr 1
      rw [Nat.add_mul]
      omega
  unfold Oper.wp
  rw [hex]
  refine hk ρ _ _ ?_
  rw [upm_one]
  refine (hsat.move hmem (fun q hq => isSome_up q hq) fun _ _ => rfl).putT (dstOk_lt hd) (tv := .v (.c (.slc x 0 size (i + k) c))) ⟨?_, ?_⟩
  · show (up st.m x _ x).isSome = true
    rw [up_same]; rfl
  · simp [AV.conc, AC.conc, hρx]
theorem GD.appendIn {l : List Oper} {cls : List Nat} {X : List (Nat × Nat)} {base : St} {recs : List DR} {rest : List Oper} {tt : Nat → TV} {m : Mem} {o : Oper} {s y : Operand} {t e size bytes x n i k j c c2 : Nat} {z : Value} {el : Nat → List Value} (el2 : Nat → List Value) (r : Nat) (hi : recs.length = r) (hp : ApT P t e size bytes z) (hg : o.guard = none) (hop : o.op = .call { callee := .builtin .append, args := #[s, y], argTypes := #[t, t] }) (hd : dstOk E.N o.dst = true)
    (hs : evT (canF l cls X base r recs).t s = .v (.c (.slc x 0 size i c))) (hy : evT (canF l cls X base r recs).t y = .v (.c (.slc x j size k c2))) (hx : (canF l cls X base r recs).m x = some (.arr e size n el 0)) (hw : Wok X r o [(x, .arr e size (i + k) el2 ((n - (i + k)) * size))] = true) (h1 : i + k ≤ c) (h2 : i + k ≤ n) (h3 : j + k ≤ n) (ho : ∀ q, q < n → ∀ u ∈ el q, u.oneCell' = true) (hel : ∀ q, q < i + k → el2 q = if q < i then el q else el (j + (q - i)))
    (kk : GD P E K l cls X base (⟨o, .v (.c (.slc x 0 size (i + k) c)), [(x, .arr e size (i + k) el2 ((n - (i + k)) * size))]⟩ :: recs) rest (Sx.putT tt o.dst (.v (.c (.slc x 0 size (i + k) c)))) (upm m [(x, .arr e size (i + k) el2 ((n - (i + k)) * size))])) : GD P E K l cls X base recs (o :: rest) tt m := by
  rw [canF_eq hi] at hs hy hx
  exact GD.step (Steps.appendIn el2 hp hg hop hd hs hy hx h1 h2 h3 ho hel) (by rw [hi]; exact hw) kk
/-- One operation of a region that draws, by itself. -/
theorem GD.op1 (hT : Tab.fine P T) {l : List Oper} {cls : List Nat} {X : List (Nat × Nat)} {base : St} {recs : List DR} {rest : List Oper} {tt : Nat → TV} {m m' : Mem} {o : Oper} {tv : TV} {obs : List Prop} (i : Nat) (hi : recs.length = i) (h : stepE T E.N l.toArray (canF l cls X base i recs).t (canF l cls X base i recs).m o = .ok tv m' obs) (ho : AllP obs) (hms : msS (canF l cls X base i recs) o m' = [])
    (k : GD P E K l cls X base (⟨o, tv, []⟩ :: recs) rest (Sx.putT tt o.dst tv) m) : GD P E K l cls X base recs (o :: rest) tt m := by
  rw [canF_eq hi] at h hms
  have := Steps.op (P := P) (E := E) hT h ho
  rw [hms] at this
  exact GD.step this rfl k
theorem GO.clear {ops : Array Oper} {rest : List Oper} {o : Oper} {y : Operand} {t e size bytes x n i k c room : Nat} {z : Value} {t0 : Nat → TV} {m : Mem} {el : Nat → List Value} (hp : ApT P t e size bytes z) (hg : o.guard = none) (hop : o.op = .call { callee := .builtin .clear, args := #[y], argTypes := #[t] }) (hd : o.dst = none)
    (hy : evT t0 y = .v (.c (.slc x i size k c))) (hx : m x = some (.arr e size n el room)) (hk0 : 0 < k) (hni : n ≤ i) (hfit : (i + k) * size ≤ n * size + room) (hz : ∀ w : World, (zeroValue e).run P w = .ok z w) (h1 : ∀ u ∈ z.cells.toList, u.oneCell' = true)
    (kk : GO P E ops K rest ⟨t0, m⟩) : GO P E ops K (o :: rest) ⟨t0, m⟩ := by
  intro ρ a w hsat
  obtain ⟨hρx, hox, cur, g1, g2, g3⟩ := hsat.mem.ok x _ hx
  have ey : a.eval y = .slice (some ⟨(ρ x).1, i * size, none⟩) k c := by
    have := hsat.eval y
    rw [show (St.mk t0 m).ev y = _ from hy] at this
    simpa [AV.conc, AC.conc, hρx] using this.2
  obtain ⟨zs, hzs⟩ : ∃ zs, zs = (Builtin.zeroCells z.cells k).toList := ⟨_, rfl⟩
  have hzl : zs.length = k * size := by rw [hzs, Array.length_toList, size_zeroCells, hp.hz]
  have hz1 : ∀ u ∈ zs, u.oneCell' = true := by
    intro u hu
    rw [hzs] at hu
    simp only [Builtin.zeroCells, Array.toList_map, List.mem_map] at hu
    obtain ⟨q, _, rfl⟩ := hu
    have hlt : q % z.cells.size < z.cells.size := Nat.mod_lt _ (by rw [hp.hz]; exact hp.pos)
    rw [getElem!_pos z.cells _ hlt]
    exact h1 _ (Array.getElem_mem_toList hlt)
  have hst := run_storeCells_at P (ρ x).1 (i * size) e zs 0 cur w g1 (by rw [hzl]; rw [Nat.add_mul] at hfit; omega) hz1
  simp only [Nat.add_zero] at hst
  have hrun : (execOp a.eval o).run P w = .ok (.value (.tuple #[])) (w.setRow (ρ x).1 (cur.toList.take (i * size) ++ zs ++ cur.toList.drop (i * size + zs.length)).toArray) := by
    obtain ⟨k', rfl⟩ : ∃ k', k = k' + 1 := ⟨k - 1, by omega⟩
    simp [execOp, hop, resolve, invoke, builtin, ey, Builtin.clear_, run_underlying hp.ht, hz, ← hzs, hst, Result.andThen]
  have hmem := hsat.mem.setArr hx (n2 := n) (room2 := room) (el2 := el) (cs := (cur.toList.take (i * size) ++ zs ++ cur.toList.drop (i * size + zs.length)).toArray) g1 (by
    simp only [List.size_toArray, List.length_append, List.length_take, List.length_drop, Array.length_toList, hzl]
    rw [Nat.add_mul] at hfit
    omega) fun q hq => by
    refine ⟨(g3 q hq).1, fun d hd => ?_⟩
    have hlt : q * size + d < i * size := by
      have := Nat.mul_le_mul_right size (show q + 1 ≤ i by omega)
      rw [Nat.add_mul] at this
      omega
    rw [← (g3 q hq).2 d hd]
    simp only [List.getElem?_toArray]
    rw [List.append_assoc, List.getElem?_append_left (by simp; rw [Nat.add_mul] at hfit; omega), List.getElem?_take, if_pos hlt]
    simp
  have hm0 : up m x (some (.arr e size n el room)) = m := by
    funext q
    by_cases hq : q = x
    · subst hq; rw [up_same, hx]
    · rw [up_other _ _ hq]
  rw [hm0] at hmem
  unfold wpList
  rw [if_pos (by simp [Region.wanted, hg])]
  refine .inl ?_
  unfold Oper.wp
  rw [hrun]
  refine kk ρ _ _ ?_
  have := (hsat.move hmem (fun q hq => hq) fun _ _ => rfl).putT (d := o.dst) (fun q hq => by rw [hd] at hq; cases hq) (tv := .unk) (v := .tuple #[]) trivial
  rw [hd] at this ⊢
  exact this
def min3 (a b c : Int) : Int := if c < (if b < a then b else a) then c else if b < a then b else a
/-- The least of three numbers, under a guard. -/
theorem GO.min3G {ops : Array Oper} {rest : List Oper} {o : Oper} {at_ : Array TypeId} {j : Nat} {p q r : Operand} {want cb : Bool} {t0 : Nat → TV} {m : Mem} (a b c : Int) (hg : o.guard = some (j, want)) (hb : guardB ops t0 j want = some cb) (hop : o.op = .call { callee := .builtin .min, args := #[p, q, r], argTypes := at_ })
    (hob : AllP (stripObs t0 j want cb (slotsOf o.op.operands.toList))) (hp : evG t0 j want (slotsOf o.op.operands.toList) p = .v (.c (.k (.int .i64 a)))) (hq : evG t0 j want (slotsOf o.op.operands.toList) q = .v (.c (.k (.int .i64 b)))) (hr : evG t0 j want (slotsOf o.op.operands.toList) r = .v (.c (.k (.int .i64 c)))) (hd : dstOk E.N o.dst = true)
    (k : GO P E ops K rest ⟨Sx.putT t0 o.dst (.grd j want cb (.c (.k (.int .i64 (min3 a b c))))), m⟩) : GO P E ops K (o :: rest) ⟨t0, m⟩ := by
  refine GO.steps (tv := .grd j want cb (.c (.k (.int .i64 (min3 a b c))))) (ms := []) ?_ k
  intro st hle ρ ac w hs Kc Q hk
  have hs' := hs.weakT hle.t
  have hw := wanted_cond (ops := ops) hs' hg hb
  rw [hw]
  cases hcb : cb with
  | true =>
    subst hcb
    rw [if_pos rfl]
    have hev := fun y => evG_rep hs' hob rfl y
    have e1 : ac.eval p = .int .i64 a := by have := hev p; rw [hp] at this; exact this.2
    have e2 : ac.eval q = .int .i64 b := by have := hev q; rw [hq] at this; exact this.2
    have e3 : ac.eval r = .int .i64 c := by have := hev r; rw [hr] at this; exact this.2
    have hrun : (execOp ac.eval o).run P w = .ok (.value (.int .i64 (min3 a b c))) w := by
      simp only [execOp, hop, resolve, List.map_toArray, List.map_cons, List.map_nil, Sem.run_bind, Sem.run_pure, Result.andThen_ok, invoke, builtin, Builtin.min_, e1, e2, e3, List.foldlM_cons, List.foldlM_nil, Builtin.min2]
      rfl
    exact Snd.go hs (dstOk_lt hd) (tv := .grd j want true (.c (.k (.int .i64 (min3 a b c))))) (Snd.here hs.mem hrun ⟨fun _ => ⟨trivial, rfl⟩, fun hf => by cases hf⟩) fun ρ' a' w' hs'' => hk ρ' a' w' hs''
  | false =>
    subst hcb
    rw [if_neg (by simp)]
    exact hk ρ _ w (hs.putT (dstOk_lt hd) ⟨fun hf => (by cases hf), fun _ => rfl⟩)
/-- A function that answers with a row of its own making. -/
def endOwnN (T : Tab) (fn : Func) (ty : TypeId) (n sz : Nat) (el : Nat → List Value) : Exit → St → Prop := fun e st => (e = .ret ∨ e = .normal) ∧ ∃ r, fn.results.toList = [r] ∧ ∃ x c el2 room, resOne T st r = .v (.c (.slc x 0 sz n c)) ∧ n ≤ c ∧ st.m x = some (.arr ty sz n el2 room) ∧ ∀ i, i < n → el2 i = el i
theorem enterOwnNew (hT : Tab.fine P T) {f : FuncId} {fn : Func} {c : Code} {args : Array Value} {w : World} (ty : TypeId) (n sz : Nat) (el : Nat → List Value) (hf : P.funcs[f]? = some fn) (hb : fn.body = some c) (N : Nat) (hN : fn.ntmps = N) (avs : List AV) (l : List Inp)
    (hargs : args = (avs.map (AV.conc (inpsV l))).toArray) (hl : Nat.ble avs.length N = true) (hr : allRd w l) (ha : allInps l avs)
    (h : G P ⟨w, [], N⟩ (endOwnN T fn ty n sz el) c ⟨argsT avs, lkM (inpsM l)⟩) : Calls P f args w fun e w' => OwnNew w w' e ty n sz el ∧ Below w.heap.size w w' := by
  subst hN
  refine enter (E := ⟨w, [], fn.ntmps⟩) hf hb (inpsV l) (Sat.init hr ha hargs (Nat.le_of_ble_eq_true hl)) (h.mono fun e st hk => ⟨hk.1, fun ρ a w' hs => ?_⟩)
  obtain ⟨r, h1, x, cp, el2, room, h2, h3, h4, h5⟩ := hk.2
  obtain ⟨h6, h7⟩ := resOne_run hT hs h2
  obtain ⟨k1, k2, k3⟩ := hs.mem.ok x _ h4
  have k2 : w.heap.size ≤ (ρ x).1 := by
    rcases k2 with h | h
    · exact h
    · cases h
  obtain ⟨cs, q1, q2, q3⟩ := k3
  refine ⟨_, results_one h1 h6, ⟨(ρ x).1, cp, ?_, h3, k2, cs, q1, by omega, fun i hi => by rw [← h5 i hi]; exact q3 i hi⟩, hs.mem.fr.toBelow⟩
  simp [AV.conc, AC.conc, k1]
theorem endOwnN.ret {fn : Func} {ty n sz c x room : Nat} {el el2 : Nat → List Value} {st : St} {r : ResultVar} (h : fn.results.toList = [r]) (h1 : resOne T st r = .v (.c (.slc x 0 sz n c))) (h2 : n ≤ c) (h3 : st.m x = some (.arr ty sz n el2 room)) (h4 : ∀ i, i < n → el2 i = el i) : endOwnN T fn ty n sz el .ret st := ⟨.inl rfl, r, h, x, c, el2, room, h1, h2, h3, h4⟩
end
end Go.Sx
/- Chapter 37: one edge less, and the law MatchEdges. -/
set_option linter.unusedVariables false
set_option linter.unusedSimpArgs false
set_option maxRecDepth 8000
set_option maxHeartbeats 1000000
namespace Go.Proofs.Ytnoejcejkdkaeaa
open Go.Sx Go.RowKit Mt
theorem cloneEO_any (A : Option Addr) (c : Nat) (l : List EI) (w : World) (hl : RdRow w A l.length 2 (elE l)) (hm : l.length ≤ 1000000) (h0 : 0 < l.length) :
    Calls Try.prog 15 #[.slice A l.length c] w fun e w' => OwnNew w w' e 35 l.length 2 (elE l) ∧ Below w.heap.size w w' := by
  refine enterOwnNew tfine 35 l.length 2 (elE l) Try.func15 rfl 8 Try.ntmps15 [.c (.inp 1000 A l.length c)] [⟨1000, A, 2, l.length, elE l⟩] rfl rfl ⟨hl, trivial⟩ ⟨.inl ⟨rfl, rfl, rfl⟩, trivial⟩ ?_
  refine G.seqR tfine rfl trivial ?_
  refine G.seq (G.seqR tfine rfl trivial ?_)
  refine G.cond rfl (fun h => ?_) (fun h => ?_)
  · exfalso
    have hA : A = none := by cases A <;> simp at h ⊢
    have := row_none hl hA
    omega
  refine G.skip ?_
  refine G.seqC tfine rfl trivial ?_
  refine GO.emptySliceS tfine rfl rfl rfl rfl rfl rfl rfl fun A0 hA0 => ?_
  refine GO.more tfine rfl trivial ?_
  refine GO.appendNew (elE l) apE rfl rfl rfl rfl rfl rfl rfl rfl (RowOf.ro rfl) (fun i hi => rfl) (fun i hi u hu => by simp [elE] at hu; rcases hu with rfl | rfl <;> rfl) (by unfold maxLen; omega) (by omega) (fun h1 => ?_) fun h1 c' hc' => ?_
  · omega
  · refine GO.fin tfine rfl trivial ?_
    exact G.ret (endOwnN.ret rfl rfl hc' rfl fun i hi => rfl)
def delF (el : Nat → List Value) (i q : Nat) : List Value := if q < i then el q else el (q + 1)
theorem deleteE_any (b n c i : Nat) (el : Nat → List Value) (w : World) (ho : OwnAt w b 35 n 2 el 0) (hi : i < n) (hc : n ≤ c) (h1 : ∀ q, q < n → ∀ u ∈ el q, u.oneCell' = true) (hn : n ≤ 1000000) :
    Calls Try.prog 27 #[.slice (some ⟨b, 0, none⟩) n c, I i, I ((i : Int) + 1)] w fun e w' => e = .returned (.slice (some ⟨b, 0, none⟩) (n - 1) c) ∧ Fr w [b] w' ∧ OwnAt w' b 35 (n - 1) 2 (delF el i) 0 := by
  refine (enterBwS tfine 1900 b 2 (n - 1) c [⟨1900, b, .arr 35 2 n el 0⟩] [⟨1900, b, .arr 35 2 (n - 1) (delF el i) 0⟩] Try.func27 rfl 33 Try.ntmps27 [.c (.slc 1900 0 2 n c), .c (.k (I i)), .c (.k (I ((i : Int) + 1)))] []
    trivial trivial ⟨trivial, trivial⟩ ⟨⟨Nat.le_refl _, trivial, trivial, ho⟩, trivial⟩ rfl rfl ⟨.inl rfl, trivial, trivial, trivial⟩ (fun q hq => by simp only [List.mem_cons, List.not_mem_nil, or_false] at hq; subst hq; exact ⟨_, List.mem_cons_self, rfl, rfl⟩) ⟨trivial, trivial⟩ ⟨_, List.mem_cons_self, rfl, rfl⟩ ?_).mono fun e w' h => ⟨h.1, h.2.1, h.2.2.1⟩
  refine G.seqR tfine rfl trivial ?_
  refine G.seqC tfine rfl trivial ?_
  refine GO.slice3 tfine i ((i : Int) + 1) n rfl rfl rfl rfl rfl rfl rfl rfl rfl rfl (by omega) (by omega) (by omega) (by omega) (GO.nil ?_)
  refine G.seq (G.seqR tfine rfl trivial ?_)
  refine G.cond (b := ((i : Int) == (i : Int) + 1)) rfl (fun h => ?_) (fun h => ?_)
  · exfalso
    simp only [beq_iff_eq] at h
    omega
  refine G.skip ?_
  refine G.seqR tfine rfl trivial ?_
  have e1 : i + (n - (i + 1)) = n - 1 := by omega
  have e2 : (n - (n - 1)) * 2 = 2 := by omega
  have hel : ∀ q, q < i + (n - (i + 1)) → delF el i q = if q < i then el q else el (i + 1 + (q - i)) := fun q hq => by
    unfold delF
    by_cases h : q < i
    · rw [if_pos h, if_pos h]
    · rw [if_neg h, if_neg h]
      congr 1
      omega
  refine G.join (fun _ : Unit => St.of [(0, .v (.c (.slc 1900 0 2 (n - 1) c))), (7, .v (.c (.k (I n))))] [(1900, .arr 35 2 (n - 1) (delF el i) 2)]) (fun _ => True) ?_ ?_
  · by_cases hcc : i + 1 < c
    · refine G.draw (cls := [0, 0, 3, 0, 0, 24, 63, 127]) (X := [(6, 1900)]) hmix rfl rfl rfl ?_
      refine GD.more tfine 0 rfl rfl ?_ ?_
      · simp only [AllP]; and_intros <;> first | trivial | omega
      have z1 : ((i : Int).toNat - Int.toNat 0) = i := by simp
      have z2 : c - Int.toNat 0 = c := by simp
      have z3 : (0 + Int.toNat 0) = 0 := rfl
      have z4 : (0 + ((i : Int) + 1).toNat) = i + 1 := by omega
      have z5 : ((n : Int).toNat - ((i : Int) + 1).toNat) = n - (i + 1) := by omega
      have z6 : c - ((i : Int) + 1).toNat = c - (i + 1) := by omega
      rw [z1, z2, z3, z4, z5, z6]
      refine GD.appendIn (i := i) (j := i + 1) (k := n - (i + 1)) (c2 := c - (i + 1)) (delF el i) 6 rfl apE rfl rfl rfl rfl rfl rfl rfl (by omega) (by omega) (by omega) h1 hel ?_
      rw [e1, e2]
      refine GD.fin tfine 7 rfl rfl trivial ?_
      exact ⟨(), trivial, St.le_of rfl ⟨⟨_, rfl, Blk.le_refl _⟩, trivial⟩ ⟨rfl, rfl, trivial⟩⟩
    · have hn1 : n = i + 1 := by omega
      have hc1 : c = i + 1 := by omega
      subst hn1 hc1
      refine G.draw (cls := [0, 0, 3, 0, 0, 24, 63, 127]) (X := [(6, 1900)]) hmix rfl rfl rfl ?_
      refine GD.op1 tfine 0 rfl rfl trivial rfl ?_
      refine GD.op1 tfine 1 rfl rfl trivial rfl ?_
      refine GD.op1 tfine 2 rfl rfl ?_ rfl ?_
      · simp only [AllP]; and_intros <;> first | trivial | omega
      refine GD.op1 tfine 3 rfl rfl trivial rfl ?_
      refine GD.op1 tfine 4 rfl rfl trivial rfl ?_
      have z1 : ((i : Int).toNat - Int.toNat 0) = i := by simp
      have z2 : (i + 1) - Int.toNat 0 = i + 1 := by simp
      have z3 : (0 + Int.toNat 0) = 0 := rfl
      rw [z1, z2, z3]
      refine GD.sliceEnd (n := i + 1) tfine 5 rfl rfl rfl rfl rfl rfl rfl rfl rfl ?_
      refine GD.appendIn (i := i) (j := 0) (k := 0) (c2 := 0) (delF el i) 6 rfl apE rfl rfl rfl rfl rfl rfl rfl (by omega) (by omega) (by omega) h1 (fun q hq => by rw [hel q (by omega), if_pos (by omega), if_pos (by omega)]) ?_
      rw [show i + 0 = i + 1 - 1 by omega, show (i + 1 - (i + 1 - 1)) * 2 = 2 by omega]
      refine GD.fin tfine 7 rfl rfl trivial ?_
      exact ⟨(), trivial, St.le_of rfl ⟨⟨_, rfl, Blk.le_refl _⟩, trivial⟩ ⟨rfl, rfl, trivial⟩⟩
  rintro _ _
  refine G.seqC tfine rfl ?_ ?_
  · simp only [AllP]; and_intros <;> first | trivial | omega
  have y1 : (0 + (((n - 1 : Nat) : Int)).toNat) = n - 1 := by simp
  have y2 : ((n : Int).toNat - (((n - 1 : Nat) : Int)).toNat) = n - (n - 1) := by simp
  have y3 : c - (((n - 1 : Nat) : Int)).toNat = c - (n - 1) := by simp
  rw [y1, y2, y3]
  refine GO.clear (i := n - 1) (k := n - (n - 1)) (c := c - (n - 1)) apE rfl rfl rfl rfl rfl (by omega) (by omega) (by omega) (fun w => by kernel_rfl) (fun u hu => by simp [Value.cells] at hu; rcases hu with rfl | rfl <;> rfl) (GO.nil ?_)
  refine G.seqR tfine rfl trivial ?_
  exact G.ret (endBwS.ret rfl rfl ⟨⟨_, _, rfl, fun q hq => rfl⟩, trivial⟩)
theorem el_erase (l : List EI) (i q : Nat) (hq : q < l.length - 1) (hi : i < l.length) : elE (l.eraseIdx i) q = delF (elE l) i q := by
  have h1 : q < (l.eraseIdx i).length := by rw [List.length_eraseIdx]; split <;> omega
  have : (l.eraseIdx i).getD q (0, 0) = if q < i then l.getD q (0, 0) else l.getD (q + 1) (0, 0) := by
    simp only [List.getD_eq_getElem?_getD]
    rw [List.getElem?_eraseIdx]
    split <;> rfl
  unfold delF elE
  rw [this]
  split <;> rfl
theorem erase_okay {n m : Int} {L : List Eg} {N M : Nat} (h : Okay n m (castL L) N M L) (i : Nat) (hi : i < L.length) : Okay n m (castL (L.eraseIdx i)) N M (L.eraseIdx i) :=
  ⟨h.hn, h.hm, h.hN, h.hM, rfl, by rw [List.length_eraseIdx]; have := h.len; split <;> omega, fun e he => h.mem e (List.mem_of_mem_eraseIdx he), h.up.sublist (List.eraseIdx_sublist _ _)⟩
theorem erase_size {n m : Int} {L : List Eg} {N M : Nat} (h : Okay n m (castL L) N M L) (i : Nat) (hi : i < L.length) : ∃ a b : Nat, sizeA n m (castL L) = ((a : Int), 0) ∧ sizeA n m (castL (L.eraseIdx i)) = ((b : Int), 0) ∧ b ≤ a ∧ a ≤ b + 1 ∧ a ≤ N ∧ a ≤ M ∧ a ≤ L.length := by
  have h' := erase_okay h i hi
  have m1 := h.best.max
  have m2 := h'.best.max
  have hl := m1.less m2 L[i] (fun e he => List.mem_of_mem_eraseIdx he) fun e he => by
    obtain ⟨j, hj, rfl⟩ := List.mem_iff_getElem.1 he
    by_cases hji : j = i
    · subst hji; exact .inl rfl
    · exact .inr (List.mem_eraseIdx_iff_getElem.2 ⟨j, hj, hji, rfl⟩)
  have hs := m1.sides h.mem
  refine ⟨_, _, ?_, ?_, hl.1, hl.2, hs.1, hs.2.1, hs.2.2⟩
  · rw [sizeA, if_neg (by simp [ok_check h]), msOf, toEg_cast, show n.toNat = N by rw [h.hn]; simp]
  · rw [sizeA, if_neg (by simp [ok_check h']), msOf, toEg_cast, show n.toNat = N by rw [h.hn]; simp]
theorem u8_bd {n : Int} (h : (Lit.int .u8 n).wf = true) : 0 ≤ n ∧ n ≤ 255 := by
  have h : (decide (IntKind.u8.min ≤ n) && decide (n ≤ IntKind.u8.max)) = true := h
  rw [Bool.and_eq_true] at h
  exact ⟨of_decide_eq_true h.1, of_decide_eq_true h.2⟩
theorem map_erase {α β : Type} (f : α → β) : ∀ (L : List α) (i : Nat), (L.eraseIdx i).map f = (L.map f).eraseIdx i
  | [], i => by simp
  | a :: r, 0 => by simp
  | a :: r, i + 1 => by simp [map_erase f r i]
theorem castL_erase (L : List Eg) (i : Nat) : castL (L.eraseIdx i) = (castL L).eraseIdx i := map_erase _ L i
theorem MatchEdges_any (n m : Int) (A : Option Addr) (c : Nat) (l : List EI) (x : Int) (w : World) (hl : RdRow w A l.length 2 (elE l)) (hx : (Lit.int .u8 x).wf = true) :
    Calls Try.prog 9 #[.agg #[I n, I m], .slice A l.length c, .int .u8 x] w fun e w' => e = .returned (.bool true) ∧ Below w.heap.size w w' := by
  refine enterPlain tfine Try.func9 rfl 83 Try.ntmps9 [.agg [.k (I n), .k (I m)], .c (.inp 1000 A l.length c), .c (.k (.int .u8 x))] [⟨1000, A, 2, l.length, elE l⟩] rfl rfl ⟨hl, trivial⟩ ⟨⟨trivial, trivial, trivial⟩, .inl ⟨rfl, rfl, rfl⟩, trivial, trivial⟩ ?_
  have hx := u8_bd hx
  refine G.seqR tfine rfl trivial ?_
  refine G.seq ?_
  refine G.seqC tfine rfl trivial ?_
  refine GO.callPlain (v := .bool true) rfl rfl rfl rfl (fun args w => Try.call10 args w) (fun ρ w hs hok => awake_any w) ?_
  refine GO.fin tfine rfl trivial ?_
  refine G.cond_false rfl ?_
  refine G.skip ?_
  refine G.seq ?_
  refine G.seqR tfine rfl ?_ ?_
  · first | trivial | (simp [AllP, condB]; done) | (simp only [AllP]; and_intros <;> first | trivial | decide | omega) | (simp [AllP, condB]; intros; and_intros <;> first | assumption | omega) | (simp [AllP, condB]; intros; simp_all; done) | (simp [AllP, condB]; intros; simp_all; omega) | (simp [AllP, condB]; omega)
  refine G.cond (b := (decide ((l.length : Int) > 40) || ((l.length : Int) == 0))) rfl (fun h => ?_) (fun h => ?_)
  · refine G.seqR tfine rfl trivial ?_
    exact G.ret (endK.ret rfl rfl)
  have hm : l.length ≤ 40 ∧ 0 < l.length := by
    simp only [Bool.or_eq_false_iff, decide_eq_false_iff_not, beq_eq_false_iff_ne] at h
    omega
  refine G.skip ?_
  refine G.seqDraw hmix [0, 1, 0, 4, 0, 16, 63, 127, 255, 255, 511, 2047] [(5, 800), (5, 850)] rfl rfl rfl ?_
  refine GD.more tfine 0 rfl rfl trivial ?_
  refine GD.callAns [.c (.r l.length 2 (elE l))] [800] 5 rfl rfl rfl rfl rfl ⟨rfl, rfl, rfl, trivial⟩ rfl (fun args w => Try.call15 args w) (fun m1 hle ρ w hs hok => cloneEI_any A c l w (hs.row (cap := c) (hle.at rfl) (hok _ List.mem_cons_self)) (by omega)) ?_
  refine GD.call (v := .tuple #[I (sizeA n m l).1, I (sizeA n m l).2]) 6 rfl rfl rfl rfl rfl (fun args w => Try.call13 args w) (fun m1 hle ρ w hs hok => Size_any n m _ _ l w (hs.rowR (hle.at rfl) (hok _ (List.mem_cons_of_mem _ (List.mem_cons_of_mem _ List.mem_cons_self))) (Nat.le_refl _)) (by omega)) ?_
  refine GD.fin tfine 7 rfl rfl trivial ?_
  refine G.seq ?_
  refine G.seqR tfine rfl trivial ?_
  refine G.cond (b := ((sizeA n m l).2 != 0)) rfl (fun h2 => ?_) (fun h2 => ?_)
  · refine G.seqR tfine rfl trivial ?_
    refine G.ret (endK.ret rfl ?_)
    rw [size_err (by simpa using h2)]
    rfl
  have h2 : (sizeA n m l).2 = 0 := by simpa using h2
  have ok := check_ok (size_ok h2)
  obtain ⟨L, hL⟩ : ∃ L, L = toEg l := ⟨_, rfl⟩
  obtain ⟨N, hN⟩ : ∃ N, N = n.toNat := ⟨_, rfl⟩
  obtain ⟨M, hM⟩ : ∃ M, M = m.toNat := ⟨_, rfl⟩
  rw [← hL, ← hN, ← hM] at ok
  have hlc := ok.hl
  clear hL
  subst hlc
  have hnN := ok.hn
  have hmM := ok.hm
  have hlen := castL_len L
  obtain ⟨i, hi, hix⟩ : ∃ i : Nat, i < L.length ∧ Int.tmod x (castL L).length = (i : Int) := by
    have h1 := Int.tmod_nonneg ((castL L).length : Int) hx.1
    have h3 := Int.tmod_lt_of_pos x (b := ((castL L).length : Int)) (by omega)
    exact ⟨(Int.tmod x (castL L).length).toNat, by omega, by omega⟩
  obtain ⟨a, b, q1, q2, q3, q4, q5, q6, q7⟩ := erase_size ok i hi
  rw [q1]
  refine G.skip ?_
  refine G.seqR tfine rfl ?_ ?_
  · simp only [AllP]; and_intros <;> first | trivial | omega
  rw [IntWalk.i64_in x (by omega), hix]
  refine G.seqDraw hmix [0, 1, 0, 4, 0, 16, 0, 0, 128, 496, 1023, 2047, 4095, 4095, 8191, 32767] [(5, 801), (5, 851), (9, 801)] rfl rfl rfl ?_
  refine GD.more tfine 0 rfl rfl trivial ?_
  refine GD.callOwnR 801 35 (castL L).length 2 (elE (castL L)) 5 rfl rfl rfl rfl rfl rfl rfl rfl rfl (fun args w => Try.call15 args w) (fun m1 hle ρ w hs hok => cloneEO_any A c (castL L) w (hs.row (cap := c) (hle.at rfl) (hok _ List.mem_cons_self)) (by omega) (by omega)) ?_
  refine GD.more tfine 6 rfl rfl trivial ?_
  rw [IntWalk.i64_in ((i : Int) + 1) (by omega)]
  refine GD.callTurnR 801 35 (castL L).length ((castL L).length - 1) 2 w.heap.size (elE (castL L)) (delF (elE (castL L)) i) 9 rfl rfl rfl rfl rfl rfl List.mem_cons_self (Nat.sub_le _ _) rfl (fun args w => Try.call27 args w) (fun m1 hle ρ w1 hs hok => ?_) ?_
  · have o := hok _ List.mem_cons_self
    have e := hs.rowAd (hle.at rfl) o (by omega)
    have := deleteE_any (ρ 801).1 (castL L).length (ρ 851).1 i (elE (castL L)) w1 (hs.ownA (hle.at rfl)) (by omega) o.2.2.2 (fun q hq u hu => by simp [elE] at hu; rcases hu with rfl | rfl <;> rfl) (by omega)
    have e2 : (List.map (AV.conc ρ) [AV.c (.row 801 (castL L).length w.heap.size), AV.c (.k (I i)), AV.c (.k (I ((i : Int) + 1)))] ++ List.map (Cap.conc ρ) []).toArray = #[.slice (some ⟨(ρ 801).1, 0, none⟩) (castL L).length (ρ 851).1, I i, I ((i : Int) + 1)] := by
      simp [AV.conc, AC.conc, e]
    have e3 : AC.conc ρ (.row 801 ((castL L).length - 1) w.heap.size) = .slice (some ⟨(ρ 801).1, 0, none⟩) ((castL L).length - 1) (ρ 851).1 := by
      simp [AC.conc, e]
    rw [← e2, ← e3] at this
    exact this
  refine GD.call (v := .tuple #[I b, I 0]) 10 rfl rfl rfl rfl rfl (fun args w => Try.call13 args w) (fun m1 hle ρ w1 hs hok => ?_) ?_
  · have hll : (castL (L.eraseIdx i)).length = (castL L).length - 1 := by
      rw [castL_len, List.length_eraseIdx, if_pos hi, castL_len]
    have hr := hs.rowA (hle.at rfl) (hok _ (List.mem_cons_of_mem _ (List.mem_cons_of_mem _ List.mem_cons_self))) (Nat.le_refl _)
    have hr2 : RdRow w1 (rowAd ρ 801) (castL (L.eraseIdx i)).length 2 (elE (castL (L.eraseIdx i))) := by
      rw [hll]
      refine hr.congr fun q hq => ?_
      rw [castL_erase, el_erase _ _ _ hq (by omega)]
    have := Size_any n m (rowAd ρ 801) (ρ 851).1 (castL (L.eraseIdx i)) w1 hr2 (by omega)
    rw [q2, hll] at this
    exact this
  refine GD.fin tfine 11 rfl rfl trivial ?_
  refine G.seqC tfine rfl ?_ ?_
  · first | trivial | (simp [AllP, condB]; done) | (simp only [AllP]; and_intros <;> first | trivial | decide | omega) | (simp [AllP, condB]; intros; and_intros <;> first | assumption | omega) | (simp [AllP, condB]; intros; simp_all; done) | (simp [AllP, condB]; intros; simp_all; omega) | (simp [AllP, condB]; omega)
  refine GO.min3G n m (castL L).length rfl rfl rfl (by first | exact trivial | exact ⟨id, trivial⟩ | exact ⟨id, id, trivial⟩ | exact ⟨id, id, id, trivial⟩ | exact ⟨id, id, id, id, trivial⟩) rfl rfl rfl rfl ?_
  refine GO.fin tfine rfl ?_ ?_
  · first | trivial | (simp [AllP, condB]; done) | (simp only [AllP]; and_intros <;> first | trivial | decide | omega) | (simp [AllP, condB]; intros; and_intros <;> first | assumption | omega) | (simp [AllP, condB]; intros; simp_all; done) | (simp [AllP, condB]; intros; simp_all; omega) | (simp [AllP, condB]; omega)
  refine G.ret (endK.ret rfl ?_)
  have hmin : (a : Int) ≤ min3 n m (castL L).length := by
    unfold min3
    split
    · omega
    · split <;> omega
  rw [IntWalk.i64_in ((b : Int) + 1) (by omega)]
  simp
  omega
end Go.Proofs.Ytnoejcejkdkaeaa
/- Chapter 37: rows of given edges as lists. -/
set_option linter.unusedVariables false
namespace Go.Proofs.Ytnoejcejkdkaeaa
open Go.Sx Go.RowKit Mt
theorem pick_list {α β : Type} [Inhabited β] {p : β → α → Prop} {l : List α} (h : ∀ x ∈ l, ∃ y, p y x) : ∃ m : List β, m.length = l.length ∧ ∀ i (hi : i < l.length), p (m.getD i default) l[i] := by
  induction l with
  | nil => exact ⟨[], rfl, fun i hi => absurd hi (Nat.not_lt_zero i)⟩
  | cons a r ih =>
    obtain ⟨y, hy⟩ := h a (by simp)
    obtain ⟨m, h1, h2⟩ := ih fun x hx => h x (by simp [hx])
    refine ⟨y :: m, by simp [h1], fun i hi => ?_⟩
    cases i with
    | zero => exact hy
    | succ i => exact h2 i (by simpa using hi)
theorem rowE {w : World} {A : Option Addr} {ess : List (List Value)} {d : Nat} (hr : RdRow w A ess.length 2 (fun i => ess.getD i [])) (hw : ∀ es ∈ ess, LeafAll (Leaf.says w (d + 1)) [.int .i64, .int .i64] es) :
    ∃ l : List EI, l.length = ess.length ∧ RdRow w A l.length 2 (elE l) := by
  obtain ⟨l, h1, h2⟩ := pick_list (β := Int × Int) (p := fun x es => es = [I x.1, I x.2]) (l := ess) fun es he => by
    obtain ⟨_, _, rfl, ⟨a0, rfl, _⟩, e0⟩ := (hw es he).cons
    obtain ⟨_, _, rfl, ⟨a1, rfl, _⟩, e1⟩ := e0.cons
    obtain rfl := e1.nil
    exact ⟨(a0, a1), rfl⟩
  refine ⟨l, h1, ?_⟩
  rw [h1]
  refine hr.congr fun i hi => ?_
  rw [List.getD_eq_getElem?_getD, List.getElem?_eq_getElem hi]
  exact (h2 i hi).symm
theorem MatchSizes_row (n m : Int) (A : Option Addr) (c : Nat) (ess : List (List Value)) (w : World) (hr : RdRow w A ess.length 2 (fun i => ess.getD i [])) (hn : A = none → ess.length = 0) (hm : ess.length ≤ maxLen) (hw : ∀ es ∈ ess, LeafAll (Leaf.says w 3) [.int .i64, .int .i64] es) :
    Calls Try.prog 4 #[I n, I m, .slice A ess.length c] w fun e w' => e = .returned (.bool true) ∧ Below w.heap.size w w' := by
  obtain ⟨l, h1, h2⟩ := rowE hr hw
  rw [← h1]
  exact MatchSizes_any n m A c l w h2
theorem MatchTurned_row (n m : Int) (A : Option Addr) (c : Nat) (ess : List (List Value)) (w : World) (hr : RdRow w A ess.length 2 (fun i => ess.getD i [])) (hn : A = none → ess.length = 0) (hm : ess.length ≤ maxLen) (hw : ∀ es ∈ ess, LeafAll (Leaf.says w 3) [.int .i64, .int .i64] es) :
    Calls Try.prog 7 #[.agg #[I n, I m], .slice A ess.length c] w fun e w' => e = .returned (.bool true) ∧ Below w.heap.size w w' := by
  obtain ⟨l, h1, h2⟩ := rowE hr hw
  rw [← h1]
  exact MatchTurned_any n m A c l w h2
theorem MatchLacks_row (n m : Int) (A : Option Addr) (c : Nat) (ess : List (List Value)) (w : World) (hr : RdRow w A ess.length 2 (fun i => ess.getD i [])) (hn : A = none → ess.length = 0) (hm : ess.length ≤ maxLen) (hw : ∀ es ∈ ess, LeafAll (Leaf.says w 3) [.int .i64, .int .i64] es) :
    Calls Try.prog 8 #[.agg #[I n, I m], .slice A ess.length c] w fun e w' => e = .returned (.bool true) ∧ Below w.heap.size w w' := by
  obtain ⟨l, h1, h2⟩ := rowE hr hw
  rw [← h1]
  exact MatchLacks_any n m A c l w h2
theorem rowN {w : World} {A : Option Addr} {ess : List (List Value)} {d : Nat} (hr : RdRow w A ess.length 1 (fun i => ess.getD i [])) (hw : ∀ es ∈ ess, LeafAll (Leaf.says w (d + 1)) [.int .i64] es) :
    ∃ l : List Int, l.length = ess.length ∧ RdRow w A l.length 1 (elI l) := by
  obtain ⟨l, h1, h2⟩ := pick_list (β := Int) (p := fun x es => es = [I x]) (l := ess) fun es he => by
    obtain ⟨_, _, rfl, ⟨a0, rfl, _⟩, e0⟩ := (hw es he).cons
    obtain rfl := e0.nil
    exact ⟨a0, rfl⟩
  refine ⟨l, h1, ?_⟩
  rw [h1]
  refine hr.congr fun i hi => ?_
  rw [List.getD_eq_getElem?_getD, List.getElem?_eq_getElem hi]
  exact (h2 i hi).symm
theorem MatchVerifies_row (n m : Int) (A : Option Addr) (c : Nat) (ess : List (List Value)) (A1 : Option Addr) (c1 : Nat) (ess1 : List (List Value)) (A2 : Option Addr) (c2 : Nat) (ess2 : List (List Value)) (A3 : Option Addr) (c3 : Nat) (ess3 : List (List Value)) (w : World)
    (hr : RdRow w A ess.length 2 (fun i => ess.getD i [])) (hn : A = none → ess.length = 0) (hm : ess.length ≤ maxLen) (hw : ∀ es ∈ ess, LeafAll (Leaf.says w 3) [.int .i64, .int .i64] es)
    (hr1 : RdRow w A1 ess1.length 2 (fun i => ess1.getD i [])) (hn1 : A1 = none → ess1.length = 0) (hm1 : ess1.length ≤ maxLen) (hw1 : ∀ es ∈ ess1, LeafAll (Leaf.says w 3) [.int .i64, .int .i64] es)
    (hr2 : RdRow w A2 ess2.length 1 (fun i => ess2.getD i [])) (hn2 : A2 = none → ess2.length = 0) (hm2 : ess2.length ≤ maxLen) (hw2 : ∀ es ∈ ess2, LeafAll (Leaf.says w 3) [.int .i64] es)
    (hr3 : RdRow w A3 ess3.length 1 (fun i => ess3.getD i [])) (hn3 : A3 = none → ess3.length = 0) (hm3 : ess3.length ≤ maxLen) (hw3 : ∀ es ∈ ess3, LeafAll (Leaf.says w 3) [.int .i64] es) :
    Calls Try.prog 5 #[.agg #[I n, I m], .slice A ess.length c, .agg #[.slice A1 ess1.length c1, .slice A2 ess2.length c2, .slice A3 ess3.length c3]] w fun e w' => e = .returned (.bool true) ∧ Below w.heap.size w w' := by
  obtain ⟨l, h1, h2⟩ := rowE hr hw
  obtain ⟨p, p1, p2⟩ := rowE hr1 hw1
  obtain ⟨L, q1, q2⟩ := rowN hr2 hw2
  obtain ⟨R, s1, s2⟩ := rowN hr3 hw3
  rw [← h1, ← p1, ← q1, ← s1]
  exact MatchVerifies_any n m A c l A1 A2 A3 c1 c2 c3 p L R w h2 p2 q2 s2
theorem MatchProves_row (n m : Int) (A : Option Addr) (c : Nat) (ess : List (List Value)) (A1 : Option Addr) (c1 : Nat) (ess1 : List (List Value)) (A2 : Option Addr) (c2 : Nat) (ess2 : List (List Value)) (A3 : Option Addr) (c3 : Nat) (ess3 : List (List Value)) (w : World)
    (hr : RdRow w A ess.length 2 (fun i => ess.getD i [])) (hn : A = none → ess.length = 0) (hm : ess.length ≤ maxLen) (hw : ∀ es ∈ ess, LeafAll (Leaf.says w 3) [.int .i64, .int .i64] es)
    (hr1 : RdRow w A1 ess1.length 2 (fun i => ess1.getD i [])) (hn1 : A1 = none → ess1.length = 0) (hm1 : ess1.length ≤ maxLen) (hw1 : ∀ es ∈ ess1, LeafAll (Leaf.says w 3) [.int .i64, .int .i64] es)
    (hr2 : RdRow w A2 ess2.length 1 (fun i => ess2.getD i [])) (hn2 : A2 = none → ess2.length = 0) (hm2 : ess2.length ≤ maxLen) (hw2 : ∀ es ∈ ess2, LeafAll (Leaf.says w 3) [.int .i64] es)
    (hr3 : RdRow w A3 ess3.length 1 (fun i => ess3.getD i [])) (hn3 : A3 = none → ess3.length = 0) (hm3 : ess3.length ≤ maxLen) (hw3 : ∀ es ∈ ess3, LeafAll (Leaf.says w 3) [.int .i64] es) :
    Calls Try.prog 6 #[.agg #[I n, I m], .slice A ess.length c, .agg #[.slice A1 ess1.length c1, .slice A2 ess2.length c2, .slice A3 ess3.length c3]] w fun e w' => e = .returned (.bool true) ∧ Below w.heap.size w w' := by
  obtain ⟨l, h1, h2⟩ := rowE hr hw
  obtain ⟨p, p1, p2⟩ := rowE hr1 hw1
  obtain ⟨L, q1, q2⟩ := rowN hr2 hw2
  obtain ⟨R, s1, s2⟩ := rowN hr3 hw3
  rw [← h1, ← p1, ← q1, ← s1]
  exact MatchProves_any n m A c l A1 A2 A3 c1 c2 c3 p L R w h2 p2 q2 s2
theorem MatchEdges_row (n m : Int) (A : Option Addr) (c : Nat) (ess : List (List Value)) (x : Int) (w : World) (hr : RdRow w A ess.length 2 (fun i => ess.getD i [])) (hn : A = none → ess.length = 0) (hm : ess.length ≤ maxLen) (hw : ∀ es ∈ ess, LeafAll (Leaf.says w 3) [.int .i64, .int .i64] es) (hx : (Lit.int .u8 x).wf = true) :
    Calls Try.prog 9 #[.agg #[I n, I m], .slice A ess.length c, .int .u8 x] w fun e w' => e = .returned (.bool true) ∧ Below w.heap.size w w' := by
  obtain ⟨l, h1, h2⟩ := rowE hr hw
  rw [← h1]
  exact MatchEdges_any n m A c l x w h2 hx
end Go.Proofs.Ytnoejcejkdkaeaa
