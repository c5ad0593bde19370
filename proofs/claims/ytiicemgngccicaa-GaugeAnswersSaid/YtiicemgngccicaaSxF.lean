/- The symbolic executor, part F: evOp is sound (second half). Generic over P. -/
import Derived.Test.YtiicemgngccicaaSxE
set_option linter.unusedVariables false
set_option linter.unusedSimpArgs false
namespace Go.Sx
open Go.RowKit
section
variable {P : Program} {E : Env} {ρ : Val} {m m' : Nat → Option Blk} {w : World} {η : Operand → Value} {o : Oper} {tv : TV} {obs : List Prop} {T : Tab} {x : Nat}

theorem AV.cells_conc {a : AV} (h : ∀ c ∈ a.cells, c.one = true) : (a.conc ρ).cells = (a.cells.map (AC.conc ρ)).toArray := by
  cases a with
  | agg l => rfl
  | c a =>
    have := AC.one_conc ρ (h a (by simp [AV.cells]))
    show (a.conc ρ).cells = #[a.conc ρ]
    revert this
    generalize a.conc ρ = v
    intro h1
    cases v <;> first | rfl | cases h1
theorem AV.cells_ok {a : AV} (h : a.ok ρ m) : ∀ c ∈ a.cells, c.ok ρ m := by
  cases a with
  | agg l => exact h
  | c a => intro c hc; simp [AV.cells] at hc; subst hc; exact h
theorem splice {β : Type} {cur vs : List β} {o : Nat} (h : o + vs.length ≤ cur.length) (idx : Nat) : (cur.take o ++ vs ++ cur.drop (o + vs.length))[idx]? = if idx < o then cur[idx]? else if idx < o + vs.length then vs[idx - o]? else cur[idx]? := by
  by_cases h1 : idx < o
  · rw [if_pos h1, List.getElem?_append_left (by simp; omega), List.getElem?_append_left (by simp; omega), List.getElem?_take_of_lt h1]
  · rw [if_neg h1]
    by_cases h2 : idx < o + vs.length
    · rw [if_pos h2, List.getElem?_append_left (by simp; omega), List.getElem?_append_right (by simp; omega)]
      congr 1
      simp
      omega
    · rw [if_neg h2, List.getElem?_append_right (by simp; omega), List.getElem?_drop]
      congr 1
      simp
      omega
theorem SatM.putArr (hm : SatM E ρ m w) {x : Nat} {ty : TypeId} {sz n room : Nat} {el el' : Nat → List Value} (hx : m x = some (.arr ty sz n el room)) {cs : Array Value} (hs : n * sz + room ≤ cs.size)
    (he : ∀ i, i < n → (el' i).length = sz ∧ ∀ j, j < sz → cs[i * sz + j]? = (el' i)[j]?) : SatM E ρ (up m x (some (.arr ty sz n el' room))) (w.setRow (ρ x).1 cs) := by
  obtain ⟨h1, h2, a, ha, _, _⟩ := hm.ok x _ hx
  exact hm.put hx trivial trivial (hm.fr.setRow (mem_bor h2) _) (by simp [World.setRow]) (fun g hg => heap_setRow_ne _ _ _ _ hg) ⟨h1, h2, cs, heap_setRow ha _, hs, he⟩
theorem evStore_sound (hT : Tab.fine P T) (hm : SatM E ρ m w) {t : TypeId} {y z : Operand} {p v : TV} (hp : p.rep ρ m (η y)) (hv : v.rep ρ m (η z)) (hop : o.op = .store t y z) (h : evStore T m t p v = .ok tv m' obs) (ho : AllP obs) : Snd P E ρ m w η o tv m' := by
  unfold evStore at h
  split at h
  rotate_left
  · cases h
  rename_i d x i sz off a hd
  have hval : η z = a.conc ρ := hv.2
  split at h
  · rename_i ty cells hx
    split at h
    · cases h
    rename_i hl
    have hl := Nat.eq_of_beq_eq_true hl
    obtain ⟨h1, h2, h3⟩ := putK_ok h
    obtain ⟨rfl, rfl, rfl⟩ := ok_inj h3
    have hk := hm.ok x _ hx
    have hptr : η y = .pointer (some ⟨(ρ x).1, (ρ x).2 + (i * sz + off), none⟩) := hp.2
    rw [hk.1, Nat.zero_add] at hptr
    have hcs := AV.cells_conc (ρ := ρ) h2
    have hrun := run_store_list (hT.ok t d hd) (b := (ρ x).1) (o := i * sz + off) (v := η z) hk.2.2.1 (by rw [hval, hcs]; simpa using hl) (by rw [hval, hcs]; simpa using h1)
      (by rw [hval, hcs]; intro x hx; obtain ⟨c, hc, rfl⟩ := List.mem_map.1 (by simpa using hx); exact AC.one_conc ρ (h2 c hc))
    have hput := hm.putVar (cells' := cells.take (i * sz + off) ++ a.cells ++ cells.drop (i * sz + off + a.cells.length)) hx (fun c hc => by
      simp only [List.mem_append] at hc
      rcases hc with (hc | hc) | hc
      · exact hk.2.2.2 c (List.mem_of_mem_take hc)
      · exact AV.cells_ok hv.1 c hc
      · exact hk.2.2.2 c (List.mem_of_mem_drop hc))
    have e : ((cells.map (AC.conc ρ)).toArray.toList.take (i * sz + off) ++ (η z).cells.toList ++ (cells.map (AC.conc ρ)).toArray.toList.drop (i * sz + off + (η z).cells.size)) = (cells.take (i * sz + off) ++ a.cells ++ cells.drop (i * sz + off + a.cells.length)).map (AC.conc ρ) := by
      rw [hval, hcs]
      simp [List.map_take, List.map_drop]
    rw [e] at hrun
    refine ⟨.skip, _, ρ, ?_, .inr ⟨rfl, rfl⟩, hput, fun y hy => isSome_up y hy, fun _ _ => rfl⟩
    simp only [execOp, hop, hptr, Sem.run_bind, hrun, Result.andThen_ok, Sem.run_pure]
  · rename_i ty sz' n el room hx
    split at h
    rotate_left
    · cases h
    rename_i hsz hl
    have hsz := Nat.eq_of_beq_eq_true hsz
    subst hsz
    have hl := Nat.eq_of_beq_eq_true hl
    obtain ⟨vs, hvs, h⟩ := allV_ok h
    obtain ⟨h1, h⟩ := allOne_ok h
    obtain ⟨g1, g2, cur, hcur, hroom, hel⟩ := hm.ok x _ hx
    have hptr : η y = .pointer (some ⟨(ρ x).1, (ρ x).2 + (i * sz + off), none⟩) := hp.2
    rw [g1, Nat.zero_add] at hptr
    have hcs : (η z).cells.toList = vs := by
      rw [hval, AV.cells_conc (ρ := ρ) (by rw [hvs]; intro c hc; obtain ⟨u, hu, rfl⟩ := List.mem_map.1 hc; exact h1 u hu), hvs]
      simp only [map_conc_k]
    have hcs2 : (η z).cells.size = vs.length := by rw [← hcs]; simp
    have hlen : a.cells.length = vs.length := by rw [hvs]; simp
    have fin : ∀ el', i * sz + off + vs.length ≤ n * sz → (∀ k, k < n → (el' k).length = sz ∧ ∀ j, j < sz → (if k * sz + j < i * sz + off then cur[k * sz + j]? else if k * sz + j < i * sz + off + vs.length then vs[k * sz + j - (i * sz + off)]? else cur[k * sz + j]?) = (el' k)[j]?) →
        Snd P E ρ m w η o .unk (up m x (some (.arr ty sz n el' room))) := by
      intro el' hfit he'
      have hfit2 : i * sz + off + vs.length ≤ cur.size := by omega
      have hrun := run_store_list (hT.ok t d hd) (b := (ρ x).1) (o := i * sz + off) (v := η z) hcur (by rw [hcs2]; omega) (by rw [hcs2]; exact hfit2) (by rw [hcs]; exact h1)
      rw [hcs, hcs2] at hrun
      refine ⟨.skip, _, ρ, ?_, .inr ⟨rfl, rfl⟩, hm.putArr (cs := (cur.toList.take (i * sz + off) ++ vs ++ cur.toList.drop (i * sz + off + vs.length)).toArray) hx ?_ (fun k hk => ⟨(he' k hk).1, fun j hj => ?_⟩), fun y hy => isSome_up y hy, fun _ _ => rfl⟩
      · simp only [execOp, hop, hptr, Sem.run_bind, hrun, Result.andThen_ok, Sem.run_pure]
      · simp only [List.size_toArray, List.length_append, List.length_take, List.length_drop, Array.length_toList]
        omega
      · rw [List.getElem?_toArray, splice (by simpa using hfit2)]
        simp only [Array.getElem?_toList]
        exact (he' k hk).2 j hj
    have far : ∀ k j, k < n → i < n → k ≠ i → j < sz → off + vs.length ≤ sz → ¬ (i * sz + off ≤ k * sz + j ∧ k * sz + j < i * sz + off + vs.length) := by
      intro k j hk hi hne hj hof hc
      rcases Nat.lt_or_gt_of_ne hne with h | h
      · have := Nat.mul_le_mul_right sz (show k + 1 ≤ i from h)
        rw [Nat.add_mul] at this
        omega
      · have := Nat.mul_le_mul_right sz (show i + 1 ≤ k from h)
        rw [Nat.add_mul] at this
        omega
    have fitn : i < n → off + vs.length ≤ sz → i * sz + off + vs.length ≤ n * sz := by
      intro hi hof
      have := Nat.mul_le_mul_right sz (show i + 1 ≤ n from hi)
      rw [Nat.add_mul] at this
      omega
    split at h
    · rename_i ho0 hvl
      obtain ⟨rfl, rfl, rfl⟩ := ok_inj h
      have hi : i < n := ho.1
      have ho0 := Nat.eq_of_beq_eq_true ho0
      have hvl := Nat.eq_of_beq_eq_true hvl
      refine fin _ (fitn hi (by omega)) fun k hk => ?_
      by_cases e : k = i
      · subst e
        simp only [Nat.beq_refl, cond_true]
        refine ⟨hvl, fun j hj => ?_⟩
        rw [if_neg (by omega), if_pos (by omega)]
        congr 1
        omega
      · have hb : Nat.beq k i = false := by
          cases hb : Nat.beq k i with
          | false => rfl
          | true => exact absurd (Nat.eq_of_beq_eq_true hb) e
        simp only [hb, cond_false]
        refine ⟨(hel k hk).1, fun j hj => ?_⟩
        have := far k j hk hi e hj (by omega)
        rw [← (hel k hk).2 j hj]
        split
        · rfl
        · rw [if_neg (by omega)]
    · split at h
      · rename_i hz hi0 hvl
        obtain ⟨rfl, rfl, rfl⟩ := ok_inj h
        have hz := Nat.eq_of_beq_eq_true hz
        have hi0 := Nat.eq_of_beq_eq_true hi0
        have hvl := Nat.eq_of_beq_eq_true hvl
        subst hz; subst hi0
        refine fin _ (by omega) fun k hk => ?_
        have := Nat.mul_le_mul_right sz (show k + 1 ≤ n from hk)
        rw [Nat.add_mul] at this
        refine ⟨by simp; omega, fun j hj => ?_⟩
        rw [if_neg (by omega), if_pos (by omega), List.getElem?_take_of_lt hj, List.getElem?_drop]
        congr 1
        omega
      · split at h
        · rename_i hof
          have hof := Nat.le_of_ble_eq_true hof
          obtain ⟨rfl, rfl, rfl⟩ := ok_inj h
          have hi : i < n := ho.1
          refine fin _ (fitn hi hof) fun k hk => ?_
          by_cases e : k = i
          · subst e
            simp only [Nat.beq_refl, cond_true]
            have hlk := (hel k hk).1
            refine ⟨by simp; omega, fun j hj => ?_⟩
            rw [splice (by omega), ← (hel k hk).2 j hj]
            by_cases c1 : j < off
            · rw [if_pos (by omega), if_pos c1]
            · rw [if_neg (by omega), if_neg c1]
              by_cases c2 : j < off + vs.length
              · rw [if_pos (by omega), if_pos c2]
                congr 1
                omega
              · rw [if_neg (by omega), if_neg c2]
          · have hb : Nat.beq k i = false := by
              cases hb : Nat.beq k i with
              | false => rfl
              | true => exact absurd (Nat.eq_of_beq_eq_true hb) e
            simp only [hb, cond_false]
            refine ⟨(hel k hk).1, fun j hj => ?_⟩
            have := far k j hk hi e hj hof
            rw [← (hel k hk).2 j hj]
            split
            · rfl
            · rw [if_neg (by omega)]
        · cases h
  · cases h

theorem struct_field {t : TypeId} {fs : List (Nat × TypeId)} {f : Nat} {off : Nat} {ft : TypeId} (h : (TyK.struct fs).ok P t) (hf : fs[f]? = some (off, ft)) :
    ∃ (fields : Array Field) (fd : Field), (∀ w, (underlying t).run P w = .ok (.struct fields) w) ∧ fields[f]? = some fd ∧ fd.offset = off ∧ fd.type = ft := by
  obtain ⟨fields, hu, he⟩ := h
  rw [← he, List.getElem?_map] at hf
  cases hx : fields.toList[f]? with
  | none => rw [hx] at hf; cases hf
  | some fd =>
    rw [hx] at hf
    injection hf with hf
    injection hf with h1 h2
    exact ⟨fields, fd, hu, by rw [← hx, Array.getElem?_toList], h1, h2⟩

theorem evFieldAddr_sound (hT : Tab.fine P T) (hm : SatM E ρ m w) {s : TypeId} {y : Operand} {f : Nat} {p : TV} (hp : p.rep ρ m (η y)) (hop : o.op = .fieldAddr s y f) (h : evFieldAddr T m s p f = .ok tv m' obs) : Snd P E ρ m w η o tv m' := by
  unfold evFieldAddr at h
  split at h
  rotate_left
  · cases h
  rename_i d x i sz off hd
  split at h
  rotate_left
  · cases h
  rename_i fs hk
  split at h
  rotate_left
  · cases h
  rename_i o' ft hf
  split at h
  rotate_left
  · cases h
  rename_i fd hfd
  split at h
  · cases h
  rename_i n hn
  obtain ⟨rfl, rfl, rfl⟩ := okP_inj h
  have hkind := (hT.ok s d hd).kind
  rw [hk] at hkind
  obtain ⟨fields, fd', hu, hff, h1, h2⟩ := struct_field hkind hf
  have hptr : η y = .pointer (some ⟨(ρ x).1, (ρ x).2 + (i * sz + off), none⟩) := hp.2
  have hsz := (hT.ok ft fd hfd).size w
  refine Snd.here hm (v := .pointer (some ⟨(ρ x).1, (ρ x).2 + (i * sz + (off + o')), none⟩)) ?_ ⟨hp.1, rfl⟩
  simp only [execOp, hop, Instr.fieldAt, Sem.run_bind, hu w, Result.andThen_ok, hff, hptr, Instr.sureAddr, Sem.run_pure, fieldPlace, h2, hsz, hn]
  rw [if_neg (by omega)]
  simp only [Sem.run_pure, Result.andThen_ok, addr_add, h1]
  congr 5
  omega

/-- A part of an aggregate's cells. -/
theorem part_run {t : TypeId} {d : TyD} (hd : TyOK P t d) {l : List AC} {n : Nat} (h1 : n ≤ l.length) (h2 : d.size ≤ (l.drop n).length) :
    (part t (l.map (AC.conc ρ)).toArray n).run P w = .ok (bif d.kind.isAgg then .agg (((l.drop n).take d.size).map (AC.conc ρ)).toArray else (((l.drop n).take d.size).map (AC.conc ρ)).headD undef) w := by
  simp only [part, Sem.run_bind, hd.agg w, Result.andThen_ok]
  cases hk : d.kind.isAgg with
  | true =>
    simp only [if_true, Sem.run_bind, hd.size w, Result.andThen_ok, Sem.run_pure, cond_true]
    congr 2
    apply Array.toList_inj.1
    simp [List.map_take, List.map_drop, List.extract_eq_take_drop]
  | false =>
    have h3 := hd.zag hk
    have hlt : n < l.length := by simp at h2; omega
    simp only [Bool.false_eq_true, if_false, cond_false, List.getElem?_toArray, List.getElem?_map, List.getElem?_eq_getElem hlt, Option.map_some, Sem.run_pure]
    have : l.drop n = l[n] :: l.drop (n + 1) := List.drop_eq_getElem_cons hlt
    rw [this, h3]
    rfl

/-- What field, index and extract have in common: a part of a list of cells. -/
theorem part_snd (hm : SatM E ρ m w) {d : TyD} {l : List AC} {n : Nat} {ob : List Prop} (hok : ∀ a ∈ l, a.ok ρ m)
    (hrun : n ≤ l.length → d.size ≤ (l.drop n).length → (d.kind.isAgg = false → d.size = 1) → AllP ob → (execOp η o).run P w = .ok (.value (bif d.kind.isAgg then .agg (((l.drop n).take d.size).map (AC.conc ρ)).toArray else (((l.drop n).take d.size).map (AC.conc ρ)).headD undef)) w)
    (hz : d.kind.isAgg = false → d.size = 1) (ho : AllP obs)
    (h : (dropK l n fun l => takeK l d.size fun l => match d.kind.isAgg with
          | true => .ok (.v (.agg l)) m ob
          | false => match l with
            | a :: _ => .ok (.v (.c a)) m ob
            | [] => .bad) = .ok tv m' obs) : Snd P E ρ m w η o tv m' := by
  obtain ⟨h1, h⟩ := dropK_ok h
  obtain ⟨h2, h⟩ := takeK_ok h
  have hok' : ∀ a ∈ (l.drop n).take d.size, a.ok ρ m := fun a ha => hok a (List.mem_of_mem_drop (List.mem_of_mem_take ha))
  cases hk : d.kind.isAgg with
  | true =>
    rw [hk] at h hrun
    obtain ⟨rfl, rfl, rfl⟩ := ok_inj h
    exact Snd.here hm (hrun h1 h2 (by simp) ho) ⟨hok', rfl⟩
  | false =>
    rw [hk] at h hrun
    cases hl : (l.drop n).take d.size with
    | nil => rw [hl] at h; cases h
    | cons a r =>
      rw [hl] at h hrun hok'
      obtain ⟨rfl, rfl, rfl⟩ := ok_inj h
      exact Snd.here hm (hrun h1 h2 (fun _ => hz hk) ho) ⟨hok' a (by simp), rfl⟩

theorem evField_sound (hT : Tab.fine P T) (hm : SatM E ρ m w) {s : TypeId} {y : Operand} {f : Nat} {v : TV} (hv : v.rep ρ m (η y)) (hop : o.op = .field s y f) (h : evField T m s v f = .ok tv m' obs) (ho : AllP obs) : Snd P E ρ m w η o tv m' := by
  unfold evField at h
  split at h
  rotate_left
  · cases h
  rename_i d l hd
  split at h
  rotate_left
  · cases h
  rename_i fs hk
  split at h
  rotate_left
  · cases h
  rename_i o' ft hf
  split at h
  rotate_left
  · cases h
  rename_i fd hfd
  have hkind := (hT.ok s d hd).kind
  rw [hk] at hkind
  obtain ⟨fields, fd', hu, hff, h1, h2⟩ := struct_field hkind hf
  have hη : η y = .agg (l.map (AC.conc ρ)).toArray := hv.2
  refine part_snd hm (d := fd) hv.1 (fun g1 g2 _ _ => ?_) (hT.ok ft fd hfd).zag ho h
  simp only [execOp, hop, Instr.field, Sem.run_bind, hu w, Result.andThen_ok, hff, hη, asAgg, Sem.run_pure, h2, h1, part_run (hT.ok ft fd hfd) g1 g2]

theorem evIndex_sound (hT : Tab.fine P T) (hm : SatM E ρ m w) {t : TypeId} {y z : Operand} {v i : TV} (hv : v.rep ρ m (η y)) (hi : i.rep ρ m (η z)) (hop : o.op = .index t y z) (h : evIndex T m t v i = .ok tv m' obs) (ho : AllP obs) : Snd P E ρ m w η o tv m' := by
  unfold evIndex at h
  split at h
  · rename_i d l k n hd
    split at h
    rotate_left
    · cases h
    rename_i N e hk
    split at h
    rotate_left
    · cases h
    rename_i de he
    have hkind := (hT.ok t d hd).kind
    rw [hk] at hkind
    have hη : η y = .agg (l.map (AC.conc ρ)).toArray := hv.2
    have hη2 : η z = .int k n := hi.2
    refine part_snd hm (d := de) hv.1 (fun g1 g2 _ hob => ?_) (hT.ok e de he).zag ho h
    have hb : 0 ≤ n ∧ n < (N : Int) := ⟨hob.1, hob.2.1⟩
    simp only [execOp, hop, Instr.index, Sem.run_bind, hkind w, Result.andThen_ok, hη, hη2, asIntOf, Sem.run_pure, if_pos hb, (hT.ok e de he).size w, part_run (hT.ok e de he) g1 g2]
  · rename_i d s k n hd
    split at h
    rotate_left
    · cases h
    rename_i hk
    obtain ⟨rfl, rfl, rfl⟩ := okI_inj h
    have hkind := (hT.ok t d hd).kind
    rw [hk] at hkind
    have hη : η y = .string s := hv.2
    have hη2 : η z = .int k n := hi.2
    have hlt : n.toNat < s.size := by have := ho.1; have := ho.2.1; omega
    refine Snd.here hm (v := .int .u8 (strAt s n.toNat : Nat)) ?_ ⟨trivial, rfl⟩
    have hs : s[n.toNat]? = some s[n.toNat] := getElem?_pos s n.toNat hlt
    simp only [execOp, hop, Instr.index, Sem.run_bind, hkind w, Result.andThen_ok, hη, hη2, asIntOf, Sem.run_pure, if_pos ho.1, hs, strAt]
  · cases h

theorem evIndexAddr_sound (hT : Tab.fine P T) (hm : SatM E ρ m w) {t : TypeId} {y z : Operand} {v i : TV} (hv : v.rep ρ m (η y)) (hi : i.rep ρ m (η z)) (hop : o.op = .indexAddr t y z) (h : evIndexAddr T m t v i = .ok tv m' obs) (ho : AllP obs) : Snd P E ρ m w η o tv m' := by
  unfold evIndexAddr at h
  split at h
  rotate_left
  · cases h
  rename_i d k n hd
  have hη2 : η z = .int k n := hi.2
  have hkind := (hT.ok t d hd).kind
  split at h
  · rename_i e hk
    rw [hk] at hkind
    split at h
    rotate_left
    · cases h
    rename_i de he
    have hsz := (hT.ok e de he).size w
    split at h
    · rename_i x i0 sz len cap
      split at h
      rotate_left
      · cases h
      rename_i hs
      have hs := Nat.eq_of_beq_eq_true hs
      subst hs
      obtain ⟨rfl, rfl, rfl⟩ := okP_inj h
      have hη : η y = .slice (some ⟨(ρ x).1, (ρ x).2 + i0 * de.size, none⟩) len cap := hv.2
      have hb : 0 ≤ n ∧ n < (len : Int) := ⟨ho.1, ho.2.1⟩
      refine Snd.here hm (v := .pointer (some ⟨(ρ x).1, (ρ x).2 + ((i0 + n.toNat) * de.size + 0), none⟩)) ?_ ⟨hv.1, rfl⟩
      simp only [execOp, hop, Instr.indexAt, Sem.run_bind, hkind w, Result.andThen_ok, hη, hη2, asIntOf, Sem.run_pure, if_pos hb, hsz, addr_add]
      congr 5
      rw [Nat.add_mul]
      omega
    · rename_i x A len cap
      obtain ⟨rfl, rfl, rfl⟩ := okP_inj h
      have hη : η y = .slice A len cap := hv.2
      have hb : 0 ≤ n ∧ n < (len : Int) := ⟨ho.1, ho.2.1⟩
      have hA : A = some ⟨(ρ x).1, (ρ x).2, none⟩ := hv.1.2 (by omega)
      subst hA
      refine Snd.here hm (v := .pointer (some ⟨(ρ x).1, (ρ x).2 + (n.toNat * de.size + 0), none⟩)) ?_ ⟨hv.1.1, rfl⟩
      simp only [execOp, hop, Instr.indexAt, Sem.run_bind, hkind w, Result.andThen_ok, hη, hη2, asIntOf, Sem.run_pure, if_pos hb, hsz, addr_add, Nat.add_zero]
    · cases h
  · rename_i N e hk
    rw [hk] at hkind
    split at h
    rotate_left
    · cases h
    rename_i de he
    have hsz := (hT.ok e de he).size w
    split at h
    rotate_left
    · cases h
    rename_i x sz
    split at h
    rotate_left
    · cases h
    rename_i hs
    have hs := Nat.eq_of_beq_eq_true hs
    subst hs
    split at h
    rotate_left
    · cases h
    obtain ⟨rfl, rfl, rfl⟩ := okP_inj h
    have hη : η y = .pointer (some ⟨(ρ x).1, (ρ x).2 + (0 * de.size + 0), none⟩) := hv.2
    have hb : 0 ≤ n ∧ n < (N : Int) := ⟨ho.1, ho.2.1⟩
    refine Snd.here hm (v := .pointer (some ⟨(ρ x).1, (ρ x).2 + (n.toNat * de.size + 0), none⟩)) ?_ ⟨hv.1, rfl⟩
    simp only [execOp, hop, Instr.indexAt, Sem.run_bind, hkind w, Result.andThen_ok, hη, hη2, asIntOf, Sem.run_pure, Instr.sureAddr, if_pos hb, hsz, addr_add, Nat.zero_mul, Nat.add_zero]
  · cases h

theorem evExtract_sound (hm : SatM E ρ m w) {y : Operand} {i : Nat} {v : TV} (hv : v.rep ρ m (η y)) (hop : o.op = .extract y i) (h : evExtract m v i = .ok tv m' obs) : Snd P E ρ m w η o tv m' := by
  unfold evExtract at h
  split at h
  rotate_left
  · cases h
  rename_i l
  split at h
  rotate_left
  · cases h
  rename_i a ha
  rw [forceAV_eq] at h
  obtain ⟨rfl, rfl, rfl⟩ := ok_inj h
  refine Snd.here hm (v := a.conc ρ) ?_ ⟨hv.1 a (List.mem_of_getElem? ha), rfl⟩
  have hη : η y = .tuple (l.map (AV.conc ρ)).toArray := hv.2
  simp only [execOp, hop, Instr.extract, hη, List.getElem?_toArray, List.getElem?_map, ha, Option.map_some, Sem.run_bind, Sem.run_pure, Result.andThen_ok]

def noG : Value → Bool
  | .agg _ | .nilIface => false
  | _ => true
theorem eqGuard_run (op : BinOp) (t : TypeId) (y z : Operand) {a b : Value} (h : noG a = true) (w : World) : (eqGuard op t y z a b).run P w = .ok () w := by
  cases op <;> cases a <;> first | rfl | cases h
theorem equalIn_bool {t : TypeId} (hk : ∀ w, (underlying t).run P w = .ok .bool w) (a b : Bool) (w : World) (d : Nat) : (Op.equalIn (d + 1) t (.bool a) (.bool b)).run P w = .ok (a == b) w := by
  simp [Op.equalIn, hk w]
theorem equalIn_nil {t e : TypeId} (hk : ∀ w, (underlying t).run P w = .ok (.slice e) w) (A : Option Addr) (n c n' c' : Nat) (w : World) (d : Nat) : (Op.equalIn (d + 1) t (.slice A n c) (.slice none n' c')).run P w = .ok A.isNone w := by
  cases A <;> simp [Op.equalIn, hk w]
theorem equal_bool {t : TypeId} (hk : ∀ w, (underlying t).run P w = .ok .bool w) (a b : Bool) (w : World) : (Op.equal t (.bool a) (.bool b)).run P w = .ok (a == b) w := equalIn_bool hk a b w 9999
theorem equal_nil {t e : TypeId} (hk : ∀ w, (underlying t).run P w = .ok (.slice e) w) (A : Option Addr) (n c n' c' : Nat) (w : World) : (Op.equal t (.slice A n c) (.slice none n' c')).run P w = .ok A.isNone w := equalIn_nil hk A n c n' c' w 9999
theorem bin_eq {t : TypeId} {a b : Value} {r : Bool} {w : World} (h : (Op.equal t a b).run P w = .ok r w) (hb : (binOp .eql t a b) = (do pure (.bool (← Op.equal t a b)))) : (binOp .eql t a b).run P w = .ok (.bool r) w := by
  rw [hb]; simp only [Sem.run_bind, h, Result.andThen_ok, Sem.run_pure]
theorem bin_ne {t : TypeId} {a b : Value} {r : Bool} {w : World} (h : (Op.equal t a b).run P w = .ok r w) (hb : (binOp .neq t a b) = (do pure (.bool (!(← Op.equal t a b))))) : (binOp .neq t a b).run P w = .ok (.bool (!r)) w := by
  rw [hb]; simp only [Sem.run_bind, h, Result.andThen_ok, Sem.run_pure]
theorem evBin_sound (hT : Tab.fine P T) (hm : SatM E ρ m w) {op : BinOp} {t t' : TypeId} {y z : Operand} {u v : TV} (hu : u.rep ρ m (η y)) (hv : v.rep ρ m (η z)) (hop : o.op = .binOp op t y z t') (h : evBin T m op t u v = .ok tv m' obs) (ho : AllP obs) : Snd P E ρ m w η o tv m' := by
  have hg := fun (a b : Value) (h : noG a = true) => eqGuard_run (P := P) op t y z (b := b) h w
  unfold evBin at h
  split at h
  · rename_i k a k' b
    obtain ⟨rfl, v, rfl, hr⟩ := evInt_sound (P := P) h ho t w
    refine Snd.here hm (v := v) ?_ ⟨trivial, rfl⟩
    have e1 : η y = .int k a := hu.2
    have e2 : η z = .int k' b := hv.2
    simp only [execOp, hop, e1, e2, Sem.run_bind, hg (.int k a) (.int k' b) rfl, Result.andThen_ok, hr, Sem.run_pure]
  · rename_i a b
    have e1 : η y = .bool a := hu.2
    have e2 : η z = .bool b := hv.2
    split at h
    · rename_i d hd
      have hkind := (hT.ok t d hd).kind
      split at h
      · rename_i hk
        rw [hk] at hkind
        obtain ⟨rfl, rfl, rfl⟩ := okB_inj h
        refine Snd.here hm (v := .bool (a == b)) ?_ ⟨trivial, rfl⟩
        simp only [execOp, hop, e1, e2, Sem.run_bind, hg (.bool a) (.bool b) rfl, Result.andThen_ok, bin_eq (equal_bool hkind a b w) rfl, Sem.run_pure]
      · rename_i hk
        rw [hk] at hkind
        obtain ⟨rfl, rfl, rfl⟩ := okB_inj h
        refine Snd.here hm (v := .bool (a != b)) ?_ ⟨trivial, rfl⟩
        simp only [execOp, hop, e1, e2, Sem.run_bind, hg (.bool a) (.bool b) rfl, Result.andThen_ok, bin_ne (equal_bool hkind a b w) rfl, Sem.run_pure, bne]
      · cases h
    · cases h
  · rename_i a b
    have e1 : η y = .string a := hu.2
    have e2 : η z = .string b := hv.2
    split at h
    · obtain ⟨rfl, rfl, rfl⟩ := okB_inj h
      refine Snd.here hm (v := .bool (a.toList == b.toList)) ?_ ⟨trivial, rfl⟩
      simp only [execOp, hop, e1, e2, Sem.run_bind, hg (.string a) (.string b) rfl, Result.andThen_ok, binOp, Op.stringOp, Sem.run_pure]
    · obtain ⟨rfl, rfl, rfl⟩ := okB_inj h
      refine Snd.here hm (v := .bool (!(a.toList == b.toList))) ?_ ⟨trivial, rfl⟩
      simp only [execOp, hop, e1, e2, Sem.run_bind, hg (.string a) (.string b) rfl, Result.andThen_ok, binOp, Op.stringOp, Sem.run_pure]
    · cases h
  · rename_i x' A len cap len' cap'
    have e1 : η y = .slice A len cap := hu.2
    have e2 : η z = .slice none len' cap' := hv.2
    split at h
    · rename_i d hd
      have hkind := (hT.ok t d hd).kind
      split at h
      · rename_i e hk
        rw [hk] at hkind
        obtain ⟨rfl, rfl, rfl⟩ := okB_inj h
        refine Snd.here hm (v := .bool A.isNone) ?_ ⟨trivial, rfl⟩
        simp only [execOp, hop, e1, e2, Sem.run_bind, hg (.slice A len cap) (.slice none len' cap') rfl, Result.andThen_ok, bin_eq (equal_nil hkind A len cap len' cap' w) rfl, Sem.run_pure]
      · rename_i e hk
        rw [hk] at hkind
        obtain ⟨rfl, rfl, rfl⟩ := okB_inj h
        refine Snd.here hm (v := .bool (!A.isNone)) ?_ ⟨trivial, rfl⟩
        simp only [execOp, hop, e1, e2, Sem.run_bind, hg (.slice A len cap) (.slice none len' cap') rfl, Result.andThen_ok, bin_ne (equal_nil hkind A len cap len' cap' w) rfl, Sem.run_pure]
      · cases h
    · cases h
  · rename_i x' i sz len cap len' cap'
    have e1 : η y = .slice (some ⟨(ρ x').1, (ρ x').2 + i * sz, none⟩) len cap := hu.2
    have e2 : η z = .slice none len' cap' := hv.2
    split at h
    · rename_i d hd
      have hkind := (hT.ok t d hd).kind
      split at h
      · rename_i e hk
        rw [hk] at hkind
        obtain ⟨rfl, rfl, rfl⟩ := okB_inj h
        refine Snd.here hm (v := .bool false) ?_ ⟨trivial, rfl⟩
        simp only [execOp, hop, e1, e2, Sem.run_bind, hg (.slice (some ⟨(ρ x').1, (ρ x').2 + i * sz, none⟩) len cap) (.slice none len' cap') rfl, Result.andThen_ok, bin_eq (equal_nil hkind _ len cap len' cap' w) rfl, Sem.run_pure, Option.isNone_some]
      · rename_i e hk
        rw [hk] at hkind
        obtain ⟨rfl, rfl, rfl⟩ := okB_inj h
        refine Snd.here hm (v := .bool true) ?_ ⟨trivial, rfl⟩
        simp only [execOp, hop, e1, e2, Sem.run_bind, hg (.slice (some ⟨(ρ x').1, (ρ x').2 + i * sz, none⟩) len cap) (.slice none len' cap') rfl, Result.andThen_ok, bin_ne (equal_nil hkind _ len cap len' cap' w) rfl, Sem.run_pure, Option.isNone_some, Bool.not_false]
      · cases h
    · cases h
  · cases h

theorem evUn_sound (hm : SatM E ρ m w) {op : UnOp} {t : TypeId} {y : Operand} {u : TV} (hu : u.rep ρ m (η y)) (hop : o.op = .unOp op t y) (h : evUn m op u = .ok tv m' obs) : Snd P E ρ m w η o tv m' := by
  unfold evUn at h
  split at h
  · rename_i b
    have e1 : η y = .bool b := hu.2
    obtain ⟨rfl, rfl, rfl⟩ := okB_inj h
    refine Snd.here hm (v := .bool (!b)) ?_ ⟨trivial, rfl⟩
    simp only [execOp, hop, e1, Op.unary, Sem.run_bind, Sem.run_pure, Result.andThen_ok]
  · rename_i k n
    have e1 : η y = .int k n := hu.2
    obtain ⟨rfl, rfl, rfl⟩ := okI_inj h
    refine Snd.here hm (v := .int k (k.wrap (0 - n))) ?_ ⟨trivial, rfl⟩
    simp only [execOp, hop, e1, Op.unary, Op.intArith, Sem.run_bind, Sem.run_pure, Result.andThen_ok]
  · cases h
theorem evConv_sound (hT : Tab.fine P T) (hm : SatM E ρ m w) {s t : TypeId} {y : Operand} {u : TV} (hu : u.rep ρ m (η y)) (hop : o.op = .convert s t y) (h : evConv T m s t u = .ok tv m' obs) : Snd P E ρ m w η o tv m' := by
  unfold evConv at h
  split at h
  rotate_left
  · cases h
  rename_i ds d k0 n hs hd
  have e1 : η y = .int k0 n := hu.2
  have hks := (hT.ok s ds hs).kind
  have hkd := (hT.ok t d hd).kind
  split at h
  · rename_i k1 k hk1 hk2
    rw [hk1] at hks
    rw [hk2] at hkd
    obtain ⟨rfl, rfl, rfl⟩ := okI_inj h
    refine Snd.here hm (v := .int k (k.wrap n)) ?_ ⟨trivial, rfl⟩
    simp only [execOp, hop, e1, convert, Sem.run_bind, hks w, hkd w, Conv.intToInt, Sem.run_pure, Result.andThen_ok]
  · cases h
theorem evNil_sound (hm : SatM E ρ m w) {y : Operand} {u : TV} (hu : u.rep ρ m (η y)) (hop : o.op = .nilCheck y) (h : evNil m u = .ok tv m' obs) : Snd P E ρ m w η o tv m' := by
  unfold evNil at h
  split at h
  · rename_i x i sz off
    obtain ⟨rfl, rfl, rfl⟩ := okP_inj h
    have e1 : η y = .pointer (some ⟨(ρ x).1, (ρ x).2 + (i * sz + off), none⟩) := hu.2
    refine Snd.here hm (v := η y) ?_ hu
    simp only [execOp, hop, e1, Sem.run_pure]
  · cases h

theorem capK_ok {ev : Operand → TV} (hev : ∀ y, (ev y).rep ρ m (η y)) {l : List Operand} {K : List Cap → RR} (h : capK ev l K = .ok tv m' obs) :
    ∃ caps : List Cap, (∀ c ∈ caps, c.ok m) ∧ caps.map (Cap.conc ρ) = l.map η ∧ K caps = .ok tv m' obs := by
  induction l generalizing K with
  | nil => exact ⟨[], by simp, rfl, h⟩
  | cons y r ih =>
    have hy := hev y
    simp only [capK] at h
    split at h
    · rename_i v hv
      rw [hv] at hy
      obtain ⟨caps, h1, h2, h3⟩ := ih h
      exact ⟨.val v :: caps, fun c hc => by cases hc with | head => trivial | tail _ hc => exact h1 c hc, by simp [Cap.conc, h2, hy.2, AV.conc, AC.conc], h3⟩
    · rename_i x i sz off hv
      rw [hv] at hy
      obtain ⟨caps, h1, h2, h3⟩ := ih h
      refine ⟨.own x (i * sz + off) :: caps, fun c hc => ?_, by simp [Cap.conc, h2, hy.2, AV.conc, AC.conc], h3⟩
      cases hc with
      | head => exact hy.1
      | tail _ hc => exact h1 c hc
    · cases h

theorem evLen_sound (hT : Tab.fine P T) (hm : SatM E ρ m w) {t : TypeId} {c : Call} {y : Operand} {u : TV} (hu : u.rep ρ m (η y)) (hop : o.op = .call c) (hc : c.callee = .builtin .len) (ha : c.args.toList = [y]) (hta : c.argTypes.toList = [t]) (h : evLen T m t u = .ok tv m' obs) : Snd P E ρ m w η o tv m' := by
  have ha' : c.args = #[y] := by apply Array.toList_inj.1; simpa using ha
  have ht' : c.argTypes = #[t] := by apply Array.toList_inj.1; simpa using hta
  have key : ∀ n : Int, (Builtin.len_ #[t] o.type #[η y]).run P w = .ok (goInt n) w → okI .i64 n m [] = .ok tv m' obs → Snd P E ρ m w η o tv m' := by
    intro n hr h
    obtain ⟨rfl, rfl, rfl⟩ := okI_inj h
    refine Snd.here hm (v := .int .i64 n) ?_ ⟨trivial, rfl⟩
    simp only [execOp, hop, resolve, hc, ha', ht', List.map_toArray, List.map_cons, List.map_nil, Sem.run_bind, Sem.run_pure, Result.andThen_ok, invoke, builtin, hr]
    rfl
  unfold evLen at h
  split at h
  · rename_i d hd
    have hkind := (hT.ok t d hd).kind
    split at h
    · rename_i e x i sz len cap hk
      rw [hk] at hkind
      refine key _ ?_ h
      have e1 : η y = .slice (some ⟨(ρ x).1, (ρ x).2 + i * sz, none⟩) len cap := hu.2
      simp [Builtin.len_, hkind w, e1]
    · rename_i e x A len cap hk
      rw [hk] at hkind
      refine key _ ?_ h
      have e1 : η y = .slice A len cap := hu.2
      simp [Builtin.len_, hkind w, e1]
    · rename_i e A len cap hk
      rw [hk] at hkind
      refine key _ ?_ h
      have e1 : η y = .slice A len cap := hu.2
      simp [Builtin.len_, hkind w, e1]
    · rename_i n e hk
      rw [hk] at hkind
      refine key _ ?_ h
      simp [Builtin.len_, hkind w]
    · rename_i s hk
      rw [hk] at hkind
      refine key _ ?_ h
      have e1 : η y = .string s := hu.2
      simp [Builtin.len_, hkind w, e1]
    · cases h
  · cases h

theorem evCall_sound (hT : Tab.fine P T) (hm : SatM E ρ m w) {ev : Operand → TV} (hev : ∀ y, (ev y).rep ρ m (η y)) {c : Call} (hop : o.op = .call c) (h : evCall T ev m c = .ok tv m' obs) : Snd P E ρ m w η o tv m' := by
  unfold evCall at h
  split at h
  · rename_i hc
    split at h
    · rename_i y t ha hta
      exact evLen_sound hT hm (hev y) hop hc ha hta h
    · cases h
  · rename_i hc
    split at h
    · rename_i y z ha
      have ha' : c.args = #[y, z] := by apply Array.toList_inj.1; simpa using ha
      have hy := hev y
      have hz := hev z
      split at h
      · rename_i k a k' b e1 e2
        rw [e1] at hy
        rw [e2] at hz
        obtain ⟨rfl, rfl, rfl⟩ := okI_inj h
        refine Snd.here hm (v := .int k (if b > a then b else a)) ?_ ⟨trivial, rfl⟩
        have e3 : η y = .int k a := hy.2
        have e4 : η z = .int k' b := hz.2
        simp only [execOp, hop, resolve, hc, ha', List.map_toArray, List.map_cons, List.map_nil, Sem.run_bind, Sem.run_pure, Result.andThen_ok, invoke, builtin, Builtin.max_, e3, e4, List.foldlM_cons, List.foldlM_nil, Builtin.max2]
      · cases h
    · cases h
  · rename_i hc
    split at h
    · rename_i y z ha
      have ha' : c.args = #[y, z] := by apply Array.toList_inj.1; simpa using ha
      have hy := hev y
      have hz := hev z
      split at h
      · rename_i k a k' b e1 e2
        rw [e1] at hy
        rw [e2] at hz
        obtain ⟨rfl, rfl, rfl⟩ := okI_inj h
        refine Snd.here hm (v := .int k (if b < a then b else a)) ?_ ⟨trivial, rfl⟩
        have e3 : η y = .int k a := hy.2
        have e4 : η z = .int k' b := hz.2
        simp only [execOp, hop, resolve, hc, ha', List.map_toArray, List.map_cons, List.map_nil, Sem.run_bind, Sem.run_pure, Result.andThen_ok, invoke, builtin, Builtin.min_, e3, e4, List.foldlM_cons, List.foldlM_nil, Builtin.min2]
      · cases h
    · cases h
  · cases h
end
end Go.Sx
