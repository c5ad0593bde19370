/- Chapter 02: the total of the program. -/
import Derived.Test.YtgpmoaolicpccaaD
set_option linter.unusedVariables false
set_option linter.unusedSimpArgs false
namespace Go.Proofs.Ytgpmoaolicpccaa
open Go.Sx Go.RowKit
def SQ (l : List Int) (b rule : Int) : Int := (l.map fun n => rndQ n b rule).sum
def SR (l : List Int) (b rule : Int) : Int := (l.map fun n => rndR n b rule).sum
def total3 (l : List Int) (b rule : Int) : Int × Int × Int := if (!isB rule) = true then (0, 0, 1) else if decide ((l.length : Int) > 64) = true then (0, 0, 8) else if (!divB b || l.any badB) = true then (0, 0, 2) else (SQ l b rule, SR l b rule, 0)
theorem sum_take (f : Int → Int) (l : List Int) (k : Nat) (h : k < l.length) : ((l.take (k + 1)).map f).sum = ((l.take k).map f).sum + f (l.getD k 0) := by
  rw [List.take_succ_eq_append_getElem h, List.map_append, List.sum_append]
  simp [List.getD_eq_getElem?_getD, List.getElem?_eq_getElem h]
theorem sum_bound (f : Int → Int) (B : Int) (l : List Int) (hf : ∀ x ∈ l, -B ≤ f x ∧ f x ≤ B) : -(l.length * B) ≤ (l.map f).sum ∧ (l.map f).sum ≤ l.length * B := by
  induction l with
  | nil => simp
  | cons a r ih =>
    have h1 := hf a (by simp)
    have h2 := ih fun x hx => hf x (by simp [hx])
    simp only [List.map_cons, List.sum_cons, List.length_cons]
    have : ((r.length + 1 : Nat) : Int) * B = r.length * B + B := by rw [Int.natCast_add]; simp [Int.add_mul]
    omega
theorem rnd_bound {a b rule : Int} (ha : -M ≤ a ∧ a ≤ M) (hb : 1 ≤ b ∧ b ≤ M) : (-(M + 1) ≤ rndQ a b rule ∧ rndQ a b rule ≤ M + 1) ∧ (-(M + 1) ≤ rndR a b rule ∧ rndR a b rule ≤ M + 1) := by
  have h0 := Int.emod_nonneg a (show b ≠ 0 by omega)
  have h1 := Int.emod_lt_of_pos a (show 0 < b by omega)
  have h2 := div_bound ha hb.1
  unfold rndQ rndR
  split <;> (unfold M at *; omega)
theorem bad_false {l : List Int} (h : l.any badB = false) : ∀ x ∈ l, 0 ≤ x ∧ x ≤ M := by
  intro x hx
  have := List.any_eq_false.1 h x hx
  simp [badB] at this
  unfold M
  omega
theorem SatM.var {E : Env} {ρ : Val} {m : Mem} {w : World} (h : SatM E ρ m w) {x : Nat} {ty : TypeId} {cs : List Value} (hx : m x = some (.var ty (cs.map .k))) : (ρ x).2 = 0 ∧ w.heap[(ρ x).1]? = some (.cells cs.toArray ty (0, 0)) := by
  have := h.ok x _ hx
  exact ⟨this.1, by rw [this.2.2.1, map_conc_k]⟩
theorem total_any (A : Option Addr) (c : Nat) (l : List Int) (b rule : Int) (w : World) (hl : RdRow w A l.length 1 (elI l)) (hm : l.length ≤ 4611686018427387904) :
    Calls Try.prog 19 #[.slice A l.length c, I b, I rule] w fun e w' => e = .returned (.tuple #[I (total3 l b rule).1, I (total3 l b rule).2.1, I (total3 l b rule).2.2]) ∧ Below w.heap.size w w' := by
  refine enterPlain tfine Try.func19 rfl 45 Try.ntmps19 [.c (.inp 1000 A l.length c), .c (.k (I b)), .c (.k (I rule))] [⟨1000, A, 1, l.length, elI l⟩] rfl rfl ⟨hl, trivial⟩ ⟨.inl ⟨rfl, rfl, rfl⟩, trivial, trivial, trivial⟩ ?_
  refine G.seqR tfine rfl trivial ?_
  refine G.seq (G.seqC tfine rfl trivial ?_)
  refine GO.callPlain rfl rfl rfl rfl (fun args w => Try.call26 args w) (fun ρ w hm _ => is_any _ w) ?_
  refine GO.fin tfine rfl trivial ?_
  refine G.cond rfl (fun h => ?_) (fun h => ?_)
  · refine G.seqR tfine rfl trivial ?_
    refine G.ret (endK.ret rfl ?_)
    rw [total3, h]; rfl
  refine G.skip ?_
  refine G.seq (G.seqR tfine rfl trivial ?_)
  refine G.cond rfl (fun h2 => ?_) (fun h2 => ?_)
  · refine G.seqR tfine rfl trivial ?_
    refine G.ret (endK.ret rfl ?_)
    rw [total3, h, h2]; rfl
  refine G.skip ?_
  refine G.seq (G.seqC tfine rfl trivial ?_)
  refine GO.callPlain rfl rfl rfl rfl (fun args w => Try.call27 args w) (fun ρ w hm _ => divisor_any _ w) ?_
  refine GO.more tfine rfl ?_ ?_
  · simp [AllP, condB]
  refine GO.callGuard _ rfl rfl rfl ⟨id, trivial⟩ rfl rfl (fun args w => Try.call35 args w) rfl (fun _ m' hle ρ w hs hok => containsFunc_any 36 badB (fun args w => Try.call36 args w) bad_any A c l w (hs.row (hle.at rfl) (hok _ List.mem_cons_self)) hm) ?_
  refine GO.fin tfine rfl ?_ ?_
  · simp [AllP, condB]
  rw [firstI_any, any_getD]
  refine G.cond rfl (fun h3 => ?_) (fun h3 => ?_)
  · refine G.seqR tfine rfl trivial ?_
    refine G.ret (endK.ret rfl ?_)
    rw [total3, h, h2, h3]; rfl
  refine G.skip ?_
  have hlen : l.length ≤ 64 := by have := of_decide_eq_false h2; omega
  have hk := isB_true (r := rule) (by simpa using h)
  have hdb : divB b = true ∧ l.any badB = false := by simpa using h3
  have hb := divB_true hdb.1
  have hin := bad_false hdb.2
  refine G.seqR tfine rfl trivial ?_
  refine G.seqR tfine rfl trivial ?_
  refine G.seq (G.seqR tfine rfl trivial ?_)
  refine G.block (G.loop (fun k : Nat => St.of [(1, .v (.c (.k (I b)))), (2, .v (.c (.k (I rule)))), (9, .v (.c (.ptr 9 0 0 0))), (10, .v (.c (.ptr 10 0 0 0))), (11, .v (.c (.fn 37 [.own 9 0, .own 10 0]))), (28, .v (.c (.inp 1000 A l.length c))), (29, .v (.c (.k (I l.length)))), (30, .v (.c (.k (I k))))]
      [(1000, .ro 1 l.length (elI l)), (9, .var 3 [.k (I (SQ (l.take k) b rule))]), (10, .var 3 [.k (I (SR (l.take k) b rule))])])
    (fun k => k ≤ l.length) (fun k => l.length - k) 0 (by omega) (St.le_of rfl ⟨⟨_, rfl, Blk.le_refl _⟩, ⟨_, rfl, rfl⟩, ⟨_, rfl, rfl⟩, trivial⟩ ⟨rfl, rfl, rfl, rfl, rfl, rfl, rfl, rfl, trivial⟩) ?_)
  intro k hk2
  refine G.seqR tfine rfl trivial ?_
  refine G.seq (G.cond rfl (fun h => ?_) (fun h => ?_))
  rotate_left
  · have h := of_decide_eq_false h
    have : k = l.length := by omega
    subst this
    refine G.exit ?_
    refine G.seqD tfine hmix [0, 0, 1, 7, 15] [] rfl rfl rfl rfl trivial ?_
    refine G.ret (endK.ret rfl ?_)
    rw [total3, h2, h3, List.take_length]
    simp [hk, isB]
  have h := of_decide_eq_true h
  have hlt : k < l.length := by omega
  have hx : l.getD k 0 ∈ l := by rw [List.getD_eq_getElem?_getD, List.getElem?_eq_getElem hlt]; exact List.getElem_mem hlt
  have hx1 := hin _ hx
  have hx2 : -M ≤ l.getD k 0 ∧ l.getD k 0 ≤ M := ⟨by unfold M at *; omega, hx1.2⟩
  refine G.skip ?_
  refine G.seq (G.block ?_)
  refine G.seqR tfine rfl ⟨by simpa using hlt, by omega, by omega, trivial⟩ ?_
  rw [Int.toNat_natCast]
  refine G.regC tfine rfl trivial ?_
  refine GO.callPlain rfl rfl rfl rfl (fun args w => Try.call28 args w) (fun ρ w _ _ => rounded_any _ b rule w hx2 hb hk) ?_
  refine GO.more tfine rfl trivial ?_
  have hbd : ∀ x ∈ l, _ := fun x hx => rnd_bound (rule := rule) ⟨show -M ≤ x by have := hin x hx; unfold M at *; omega, (hin x hx).2⟩ hb
  have hb1 := sum_bound (fun n => rndQ n b rule) (M + 1) (l.take k) fun x hx => (hbd x (List.mem_of_mem_take hx)).1
  have hb2 := sum_bound (fun n => rndR n b rule) (M + 1) (l.take k) fun x hx => (hbd x (List.mem_of_mem_take hx)).2
  have hr := rnd_bound (rule := rule) hx2 hb
  have hkl : ((l.take k).length : Int) * (M + 1) ≤ 64 * (M + 1) := Int.mul_le_mul_of_nonneg_right (by simp; omega) (by decide)
  refine GO.callTurn (v := .tuple #[]) [⟨9, 3, [I (SQ (l.take (k + 1)) b rule)]⟩, ⟨10, 3, [I (SR (l.take (k + 1)) b rule)]⟩] rfl rfl rfl rfl (fun args w => Try.call37 args w) ?_ ?_ (GO.nil ?_)
  · intro b hb
    simp only [List.mem_cons, List.not_mem_nil, or_false] at hb
    rcases hb with rfl | rfl
    · exact ⟨_, rfl⟩
    · exact ⟨_, rfl⟩
  · intro ρ w hs _
    have h9 := SatM.var hs (x := 9) (ty := 3) (cs := [I (SQ (l.take k) b rule)]) rfl
    have h10 := SatM.var hs (x := 10) (ty := 3) (cs := [I (SR (l.take k) b rule)]) rfl
    have hne : (ρ 9).1 ≠ (ρ 10).1 := hs.ne 9 10 _ _ rfl rfl trivial trivial (by decide)
    have := add_any (rndQ (l.getD k 0) b rule) (rndR (l.getD k 0) b rule) (SQ (l.take k) b rule) (SR (l.take k) b rule) (ρ 9).1 (ρ 10).1 w ⟨?_, ?_, ?_, ?_⟩
    · have e : ([AV.c (.k (I (rndQ (l.getD k 0) b rule))), .c (.k (I (rndR (l.getD k 0) b rule)))].map (AV.conc ρ) ++ [Cap.own 9 0, .own 10 0].map (Cap.conc ρ)).toArray = #[I (rndQ (l.getD k 0) b rule), I (rndR (l.getD k 0) b rule), .pointer (some ⟨(ρ 9).1, 0, none⟩), .pointer (some ⟨(ρ 10).1, 0, none⟩)] := by
        simp [AV.conc, AC.conc, Cap.conc, h9.1, h10.1]
      refine e ▸ this.mono ?_
      rintro e w' ⟨rfl, hf, hn⟩
      refine ⟨rfl, hf, fun t ht => ?_⟩
      simp only [List.mem_cons, List.not_mem_nil, or_false] at ht
      rcases ht with rfl | rfl
      · have := hn _ (.head _) (ρ 9).1 (.head _)
        rw [IntWalk.i64_in _ (by simp only [SQ]; unfold M at *; omega)] at this
        simp only [SQ, sum_take _ l k hlt]
        exact this
      · have := hn _ (.tail _ (.head _)) (ρ 10).1 (.tail _ (.head _))
        rw [IntWalk.i64_in _ (by simp only [SR]; unfold M at *; omega)] at this
        simp only [SR, sum_take _ l k hlt]
        exact this
    · simp
    · simp
    · simp [hne, hne.symm]
    · simp [h9.2, h10.2]
  refine G.reg tfine rfl trivial ?_
  rw [IntWalk.i64_in _ (by omega)]
  exact ⟨k + 1, hlt, (by show l.length - (k + 1) < l.length - k; omega), St.le_of rfl ⟨⟨_, rfl, Blk.le_refl _⟩, ⟨_, rfl, rfl⟩, ⟨_, rfl, rfl⟩, trivial⟩ ⟨rfl, rfl, rfl, rfl, rfl, rfl, rfl, rfl, trivial⟩⟩
end Go.Proofs.Ytgpmoaolicpccaa
