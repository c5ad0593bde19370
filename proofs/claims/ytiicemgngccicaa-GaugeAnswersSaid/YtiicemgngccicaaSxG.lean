/- The symbolic executor, part G: literals of structs and slices; evOp is sound, whole. Generic over P. -/
import Derived.Test.YtiicemgngccicaaSxF
set_option linter.unusedVariables false
set_option linter.unusedSimpArgs false
namespace Go.Sx
open Go.RowKit
section
variable {P : Program} {E : Env} {ρ : Val} {m m' : Nat → Option Blk} {w : World} {η : Operand → Value} {o : Oper} {tv : TV} {obs : List Prop} {T : Tab} {x : Nat}

theorem fold_set (off : Nat) : ∀ (vs : List Value) (k : Nat) (a : Array Value), off + k + vs.length ≤ a.size →
    (vs.zipIdx k).foldl (fun (cs : Array Value) p => cs.setIfInBounds (off + p.2) p.1) a = (a.toList.take (off + k) ++ vs ++ a.toList.drop (off + k + vs.length)).toArray
  | [], k, a, _ => by simp
  | v :: r, k, a, h => by
    have hl : off + (k + 1) + r.length ≤ (a.setIfInBounds (off + k) v).size := by simp at h ⊢; omega
    rw [List.zipIdx_cons, List.foldl_cons, fold_set off r (k + 1) _ hl]
    congr 1
    have e := list_seg_step a.toList (off + k) v r (by simp at h ⊢; omega)
    simpa [Array.toList_setIfInBounds, Nat.add_assoc] using e

theorem fillK_ok {places : Nat → Option (Nat × Nat)} {ev : Operand → TV} (hev : ∀ y, (ev y).rep ρ m (η y)) {parts : List (Nat × Operand)} {l : List AC} {K : List AC → RR} (hl : ∀ c ∈ l, c.ok ρ m)
    (h : fillK places ev l parts K = .ok tv m' obs) : ∃ l', Instr.fill places (l.map (AC.conc ρ)).toArray (parts.map fun p => (p.1, η p.2)) = some (l'.map (AC.conc ρ)).toArray ∧ (∀ c ∈ l', c.ok ρ m) ∧ K l' = .ok tv m' obs := by
  induction parts generalizing l with
  | nil => exact ⟨l, rfl, hl, h⟩
  | cons p r ih =>
    obtain ⟨i, y⟩ := p
    simp only [fillK] at h
    cases hp : places i with
    | none => rw [hp] at h; cases h
    | some q =>
      obtain ⟨off, size⟩ := q
      rw [hp] at h
      have hy := hev y
      simp only at h
      split at h
      rotate_left
      · cases h
      rename_i a ha
      rw [ha] at hy
      split at h
      · cases h
      rename_i hs
      have hs := Nat.eq_of_beq_eq_true hs
      obtain ⟨h1, h2, h3⟩ := putK_ok h
      have hcs : (η y).cells = (a.cells.map (AC.conc ρ)).toArray := by rw [hy.2]; exact AV.cells_conc h2
      obtain ⟨l', h4, h5, h6⟩ := ih (fun c hc => by
        simp only [List.mem_append] at hc
        rcases hc with (hc | hc) | hc
        · exact hl c (List.mem_of_mem_take hc)
        · exact AV.cells_ok hy.1 c hc
        · exact hl c (List.mem_of_mem_drop hc)) h3
      refine ⟨l', ?_, h5, h6⟩
      rw [List.map_cons, Instr.fill, hp]
      simp only [hcs]
      have e1 : ¬ ((decide ((a.cells.map (AC.conc ρ)).toArray.size ≠ size) || decide (off + (a.cells.map (AC.conc ρ)).toArray.size > (l.map (AC.conc ρ)).toArray.size)) = true) := by
        simp [hs]; omega
      rw [if_neg e1]
      have e2 := fold_set off (a.cells.map (AC.conc ρ)) 0 (l.map (AC.conc ρ)).toArray (by simpa using h1)
      rw [← h4]
      congr 1
      rw [← Array.foldl_toList]
      simp only [Array.toList_zipIdx]
      refine e2.trans ?_
      simp [List.map_take, List.map_drop]

theorem mapM_sizes {T : Tab} (hT : Tab.fine P T) (w : World) : ∀ (fields : List Field), tabAll T (fields.map fun x => (x.offset, x.type)) = true →
    ∃ pl : List (Nat × Nat), (fields.mapM (m := Sem) fun f => do pure (f.offset, ← sizeOf f.type)).run P w = .ok pl w ∧ ∀ i, pl[i]? = placesS T (fields.map fun x => (x.offset, x.type)) i
  | [], _ => ⟨[], rfl, fun i => by simp [placesS]⟩
  | f :: r, h => by
    simp only [List.map_cons, tabAll] at h
    cases hd : T f.type with
    | none => rw [hd] at h; cases h
    | some d =>
      rw [hd] at h
      obtain ⟨pl, h1, h2⟩ := mapM_sizes hT w r h
      refine ⟨(f.offset, d.size) :: pl, ?_, fun i => ?_⟩
      · simp only [List.mapM_cons, Sem.run_bind, (hT.ok _ d hd).size w, Result.andThen_ok, Sem.run_pure, h1]
      · cases i with
        | zero => simp [placesS, hd]
        | succ i => simpa [placesS] using h2 i

theorem fill_congr {p q : Nat → Option (Nat × Nat)} (h : ∀ i, p i = q i) (cells : Array Value) (l : List (Nat × Value)) : Instr.fill p cells l = Instr.fill q cells l := by rw [show p = q from funext h]

theorem evBuild_sound (hT : Tab.fine P T) (hm : SatM E ρ m w) {ev : Operand → TV} (hev : ∀ y, (ev y).rep ρ m (η y)) {t : TypeId} {parts : Array (Nat × Operand)} (hop : o.op = .build t parts) (h : evBuild T ev m t parts = .ok tv m' obs) : Snd P E ρ m w η o tv m' := by
  unfold evBuild at h
  split at h
  rotate_left
  · cases h
  rename_i d hd
  have hTd := hT.ok t d hd
  have hkind := hTd.kind
  have hz := hTd.zc
  have hz' : d.zv.cells = ((d.zero.map AC.k).map (AC.conc ρ)).toArray := by rw [map_conc_k]; apply Array.toList_inj.1; rw [hz]
  split at h
  · rename_i fs hk
    rw [hk] at hkind
    split at h
    rotate_left
    · cases h
    rename_i htab
    rw [forceV_eq] at h
    obtain ⟨l', h1, h2, h3⟩ := fillK_ok hev (fun c hc => by obtain ⟨v, _, rfl⟩ := List.mem_map.1 hc; trivial) h
    obtain ⟨rfl, rfl, rfl⟩ := ok_inj h3
    obtain ⟨fields, hu, hfs⟩ := hkind
    rw [← hfs] at htab h1
    obtain ⟨pl, hp1, hp2⟩ := mapM_sizes hT w fields.toList htab
    refine Snd.here hm (v := .agg (l'.map (AC.conc ρ)).toArray) ?_ ⟨h2, rfl⟩
    have hpm : (fields.mapM (m := Sem) fun f => do pure (f.offset, ← sizeOf f.type)).run P w = .ok pl.toArray w := by
      rw [Array.mapM_eq_mapM_toList]
      simp only [Sem.run_map, hp1, Result.andThen_ok]
    have hfill : Instr.fill (pl.toArray[·]?) d.zv.cells (parts.map fun p => (p.1, η p.2)).toList = some (l'.map (AC.conc ρ)).toArray := by
      rw [hz', Array.toList_map, ← h1]
      exact fill_congr (fun i => by rw [List.getElem?_toArray]; exact hp2 i) _ _
    simp only [execOp, hop, Instr.build, Sem.run_bind, hTd.zero w, Result.andThen_ok, hu w, hpm, hfill, Sem.run_pure]
  · rename_i n e hk
    rw [hk] at hkind
    split at h
    rotate_left
    · cases h
    rename_i de he
    rw [forceV_eq] at h
    obtain ⟨l', h1, h2, h3⟩ := fillK_ok hev (fun c hc => by obtain ⟨v, _, rfl⟩ := List.mem_map.1 hc; trivial) h
    obtain ⟨rfl, rfl, rfl⟩ := ok_inj h3
    refine Snd.here hm (v := .agg (l'.map (AC.conc ρ)).toArray) ?_ ⟨h2, rfl⟩
    have hfill : Instr.fill (fun i => some (i * de.size, de.size)) d.zv.cells (parts.map fun p => (p.1, η p.2)).toList = some (l'.map (AC.conc ρ)).toArray := by
      rw [hz', Array.toList_map, ← h1]
    simp only [execOp, hop, Instr.build, Sem.run_bind, hTd.zero w, Result.andThen_ok, hkind w, (hT.ok e de he).size w, hfill, Sem.run_pure]
  · cases h

theorem range_mod {z : List Value} {n : Nat} (hz : 0 < z.length) : ((Array.range (n * z.length)).map (z.toArray[· % z.toArray.size]!)) = ((List.replicate n z).flatten).toArray := by
  apply Array.ext_getElem?
  intro i
  simp only [Array.getElem?_map, List.getElem?_toArray]
  by_cases h : i < n * z.length
  · have h1 : i % z.length < z.length := Nat.mod_lt _ hz
    have h2 : i / z.length < n := by rw [Nat.div_lt_iff_lt_mul hz]; exact h
    have h3 : i = i / z.length * z.length + i % z.length := by rw [Nat.mul_comm]; exact (Nat.div_add_mod _ _).symm
    rw [Array.getElem?_range, if_pos h]
    simp only [Option.map_some, List.size_toArray]
    rw [h3, flatten_at h2 h1]
    simp only [← h3]
    simp [h1]
  · rw [Array.getElem?_range, if_neg h, List.getElem?_eq_none (by rw [flatten_len]; omega)]
    rfl

theorem evBuildSlice_sound (hT : Tab.fine P T) (hm : SatM E ρ m w) {ev : Operand → TV} (hev : ∀ y, (ev y).rep ρ m (η y)) {t : TypeId} {len : Nat} {parts : Array (Nat × Operand)} (hop : o.op = .buildSlice t len parts) (h : evBuildSlice T x ev m t len parts = .ok tv m' obs) : Snd P E ρ m w η o tv m' := by
  obtain ⟨hx1, hx, h⟩ := freshK_ok h
  cases hd : T t with
  | none => simp only [hd] at h; cases h
  | some d =>
    simp only [hd] at h
    have hkind := (hT.ok t d hd).kind
    split at h
    rotate_left
    · cases h
    rename_i e hk
    rw [hk] at hkind
    cases he : T e with
    | none => simp only [he] at h; cases h
    | some de =>
      simp only [he] at h
      split at h
      rotate_left
      · cases h
      rename_i g1 g2
      have hTe := hT.ok e de he
      have g1 : len * de.size ≤ 4096 := Nat.le_of_ble_eq_true g1
      have g2 : 0 < len * de.size := by simpa [Nat.blt_eq] using g2
      have hsz := hTe.zsz
      rw [forceV_eq] at h
      obtain ⟨l', h1, h2, h3⟩ := fillK_ok hev (fun c hc => by obtain ⟨v, _, rfl⟩ := List.mem_map.1 hc; trivial) h
      obtain ⟨rfl, rfl, rfl⟩ := ok_inj h3
      have hnew := hm.newVar hx hx1 e h2
      have hfill : Instr.fill (fun i => some (i * de.size, de.size)) ((Array.range (len * de.size)).map (de.zv.cells[· % de.zv.cells.size]!)) (parts.map fun p => (p.1, η p.2)).toList = some (l'.map (AC.conc ρ)).toArray := by
        have e1 : de.zv.cells = de.zero.toArray := by apply Array.toList_inj.1; rw [hTe.zc]
        rw [e1, ← hsz, range_mod (by rw [hsz]; exact Nat.pos_of_mul_pos_left g2), Array.toList_map, ← h1, map_conc_k, hsz]
      refine Snd.new (v := .slice (some ⟨w.heap.size, 0, none⟩) len len) hx hnew ?_ ?_
      · have hne : ¬ (len * de.size = 0) := by omega
        have hle : ¬ (len * de.size > 2 ^ 24) := by omega
        simp only [execOp, hop, Instr.buildSlice, Sem.run_bind, hkind w, Result.andThen_ok, hTe.size w, Sem.run_ite, if_neg hle, if_neg hne, Sem.run_pure, hTe.zero w, hfill, newRow, run_newObj]
        rfl
      · refine ⟨by simp [AV.ok, AC.ok, up_same], ?_⟩
        simp [AV.conc, AC.conc, up_same]

theorem evOp_sound (hT : Tab.fine P T) (hm : SatM E ρ m w) {ev : Operand → TV} (hc : ∀ v, η (.const v) = v) (hev : ∀ y, (ev y).rep ρ m (η y)) {op : Op} (hop : o.op = op) (h : evOp T x ev m op = .ok tv m' obs) (ho : AllP obs) : Snd P E ρ m w η o tv m' := by
  cases op <;> first
    | (cases h; done)
    | exact evPick_sound hm hc hev hop h ho
    | exact evAlloc_sound hT hm hop h
    | (rename_i t y
       simp only [evOp, forceTV_eq] at h
       exact evBox_sound hT hm (hev y) hop h)
    | exact evLoad_sound hT hm (hev _) hop h ho
    | (rename_i t y z
       simp only [evOp, forceTV_eq] at h
       exact evStore_sound hT hm (hev y) (hev z) hop h ho)
    | exact evFieldAddr_sound hT hm (hev _) hop h
    | exact evField_sound hT hm (hev _) hop h ho
    | exact evIndexAddr_sound hT hm (hev _) (hev _) hop h ho
    | exact evIndex_sound hT hm (hev _) (hev _) hop h ho
    | exact evExtract_sound hm (hev _) hop h
    | exact evBin_sound hT hm (hev _) (hev _) hop h ho
    | exact evUn_sound hm (hev _) hop h
    | exact evConv_sound hT hm (hev _) hop h
    | exact evBuild_sound hT hm hev hop h
    | exact evBuildSlice_sound hT hm hev hop h
    | exact evCall_sound hT hm hev hop h
    | exact evNil_sound hm (hev _) hop h
    | (rename_i y
       simp only [evOp, forceTV_eq] at h
       obtain ⟨rfl, rfl, rfl⟩ := ok_inj h
       refine Snd.here hm (v := η y) ?_ (hev y)
       simp only [execOp, hop, Sem.run_pure])
    | (rename_i fn first caps
       cases fn with
       | func f =>
         simp only [evOp] at h
         split at h
         · rename_i hf
           obtain ⟨cs, h1, h2, h3⟩ := capK_ok hev h
           obtain ⟨rfl, rfl, rfl⟩ := ok_inj h3
           have hf' : first = #[] := by apply Array.toList_inj.1; simpa using hf
           refine Snd.here hm (v := .func (.func f) #[] (caps.map η)) ?_ ⟨h1, ?_⟩
           · simp only [execOp, hop, Instr.makeFunc, hf', List.map_toArray, List.map_nil, Sem.run_bind, Sem.run_pure, Result.andThen_ok]
           · simp only [AV.conc, AC.conc, h2]
             congr 1
             apply Array.toList_inj.1
             simp
         · cases h
       | _ => cases h)
end
end Go.Sx
