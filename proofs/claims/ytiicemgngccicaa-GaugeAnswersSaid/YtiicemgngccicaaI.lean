/- Chapter 02: the rounded product, and that the examples of the chapter hold. -/
import Derived.Test.YtiicemgngccicaaH
set_option linter.unusedVariables false
set_option linter.unusedSimpArgs false
set_option maxRecDepth 8000
namespace Go.Proofs.Ytiicemgngccicaa
open Go.Sx Go.RowKit
theorem of3_ok {a b c : Int} (h : (of3 a b c).2.2 = 0) : (0 ≤ (of3 a b c).1 ∧ (of3 a b c).1 ≤ M) ∧ (0 ≤ (of3 a b c).2.1 ∧ (of3 a b c).2.1 < c) ∧ 1 ≤ c ∧ c ≤ M := by
  unfold of3 at h ⊢
  split at h
  · cases h
  rename_i h1
  split at h
  · cases h
  rename_i h2
  split at h
  · cases h
  rename_i h3
  rw [if_neg h1, if_neg h2, if_neg h3]
  have hall : amtB a = true ∧ amtB b = true ∧ amtB c = true := by simpa using h1
  have ha := amtB_true hall.1
  have hb := amtB_true hall.2.1
  have hc := amtB_true hall.2.2
  have hc0 : c ≠ 0 := by simpa using h2
  unfold dvd3 at h3 ⊢
  split at h3
  · exact absurd rfl h3
  rename_i h4
  rw [if_neg h4]
  have h5 : a.toNat * b.toNat / c.toNat ≤ 128849018880000 := by simpa using h4
  have h6 := Nat.mod_lt (a.toNat * b.toNat) (show 0 < c.toNat by omega)
  simp only
  generalize a.toNat * b.toNat / c.toNat = q at *
  generalize a.toNat * b.toNat % c.toNat = r at *
  unfold M at *
  omega
def prod2 (a b c rule : Int) : Int × Int := if (!isB rule) = true then (0, 1) else if ((of3 a b c).2.2 != 0) = true then (0, (of3 a b c).2.2) else
  if decide ((if upB rule (of3 a b c).1 (of3 a b c).2.1 c = true then (of3 a b c).1 + 1 else (of3 a b c).1) > 128849018880000) = true then (0, 15) else ((if upB rule (of3 a b c).1 (of3 a b c).2.1 c = true then (of3 a b c).1 + 1 else (of3 a b c).1), 0)
theorem rprod_any (a b c rule : Int) (w : World) :
    Calls Try.prog 77 #[I a, I b, I c, I rule] w fun e w' => e = .returned (.tuple #[I (prod2 a b c rule).1, I (prod2 a b c rule).2]) ∧ Below w.heap.size w w' := by
  refine enterPlain tfine Try.func77 rfl 39 Try.ntmps77 [.c (.k (I a)), .c (.k (I b)), .c (.k (I c)), .c (.k (I rule))] [] rfl rfl trivial ⟨trivial, trivial, trivial, trivial, trivial⟩ ?_
  refine G.seqR tfine rfl trivial ?_
  refine G.seq (G.seqC tfine rfl trivial ?_)
  refine GO.callPlain rfl rfl rfl rfl (fun args w => Try.call86 args w) (fun ρ w hm _ => is_any _ w) ?_
  refine GO.fin tfine rfl trivial ?_
  refine G.cond rfl (fun h => ?_) (fun h => ?_)
  · refine G.seqR tfine rfl trivial ?_
    refine G.ret (endK.ret rfl ?_)
    rw [prod2, h]; rfl
  refine G.skip ?_
  have hk := isB_true (r := rule) (by simpa using h)
  refine G.seqC tfine rfl trivial ?_
  refine GO.callPlain rfl rfl rfl rfl (fun args w => Try.call68 args w) (fun ρ w hm _ => of_any a b c w) ?_
  refine GO.fin tfine rfl trivial ?_
  refine G.seq (G.seqR tfine rfl trivial ?_)
  refine G.cond rfl (fun h2 => ?_) (fun h2 => ?_)
  · refine G.seqR tfine rfl trivial ?_
    refine G.ret (endK.ret rfl ?_)
    rw [prod2, h, h2]; rfl
  refine G.skip ?_
  have h0 : (of3 a b c).2.2 = 0 := by simpa using h2
  obtain ⟨hq, hr, hc⟩ := of3_ok h0
  have e2 : IntKind.i64.wrap (2 * (of3 a b c).2.1) = 2 * (of3 a b c).2.1 := IntWalk.i64_in _ (by unfold M at *; omega)
  have e3 : IntKind.i64.wrap ((of3 a b c).1 + 1) = (of3 a b c).1 + 1 := IntWalk.i64_in _ (by unfold M at *; omega)
  refine G.join (fun _ : Unit => St.of [(10, .v (.c (.k (I (if upB rule (of3 a b c).1 (of3 a b c).2.1 c = true then (of3 a b c).1 + 1 else (of3 a b c).1)))))] []) (fun _ => True) ?_ fun _ _ => ?_
  · refine G.seqC tfine rfl trivial ?_
    refine GO.callPlain rfl rfl rfl rfl (fun args w => Try.call87 args w) (fun ρ w hm _ => ups_any w) ?_
    have fin : ∀ (t : Nat → TV) (m : Mem) (u : Bool), u = upB rule (of3 a b c).1 (of3 a b c).2.1 c → True := fun _ _ _ _ => trivial
    rcases (show rule = 1 ∨ rule = 2 ∨ rule = 3 ∨ rule = 4 by omega) with rfl | rfl | rfl | rfl
    · refine GO.more tfine rfl ⟨by omega, by omega, trivial⟩ ?_
      refine GO.callPlain rfl rfl rfl rfl (fun args w => Try.call94 args w) (fun ρ w hm _ => up1_any _ _ _ w) (GO.nil ?_)
      refine G.cond_false rfl (G.skip ?_)
      exact ⟨(), trivial, St.le_of rfl trivial ⟨rfl, trivial⟩⟩
    · refine GO.more tfine rfl ⟨by omega, by omega, trivial⟩ ?_
      refine GO.callPlain rfl rfl rfl rfl (fun args w => Try.call95 args w) (fun ρ w hm _ => up2_any _ _ _ w) (GO.nil ?_)
      refine G.cond rfl (fun h3 => ?_) (fun h3 => ?_)
      · refine G.reg tfine rfl trivial ?_
        rw [e3, if_pos (show upB 2 (of3 a b c).1 (of3 a b c).2.1 c = true from h3)]
        exact ⟨(), trivial, St.le_of rfl trivial ⟨rfl, trivial⟩⟩
      · rw [if_neg (show ¬ upB 2 (of3 a b c).1 (of3 a b c).2.1 c = true from fun h4 => by rw [show upB 2 (of3 a b c).1 (of3 a b c).2.1 c = _ from h3] at h4; cases h4)]
        exact G.skip ⟨(), trivial, St.le_of rfl trivial ⟨rfl, trivial⟩⟩
    · refine GO.more tfine rfl ⟨by omega, by omega, trivial⟩ ?_
      refine GO.callPlain rfl rfl rfl rfl (fun args w => Try.call96 args w) (fun ρ w hm _ => up3_any _ _ _ w) (GO.nil ?_)
      rw [e2]
      refine G.cond rfl (fun h3 => ?_) (fun h3 => ?_)
      · refine G.reg tfine rfl trivial ?_
        rw [e3, if_pos (show upB 3 (of3 a b c).1 (of3 a b c).2.1 c = true from h3)]
        exact ⟨(), trivial, St.le_of rfl trivial ⟨rfl, trivial⟩⟩
      · rw [if_neg (show ¬ upB 3 (of3 a b c).1 (of3 a b c).2.1 c = true from fun h4 => by rw [show upB 3 (of3 a b c).1 (of3 a b c).2.1 c = _ from h3] at h4; cases h4)]
        exact G.skip ⟨(), trivial, St.le_of rfl trivial ⟨rfl, trivial⟩⟩
    · refine GO.more tfine rfl ⟨by omega, by omega, trivial⟩ ?_
      refine GO.callPlain rfl rfl rfl rfl (fun args w => Try.call97 args w) (fun ρ w hm _ => up4_any _ _ _ w) (GO.nil ?_)
      rw [e2]
      refine G.cond rfl (fun h3 => ?_) (fun h3 => ?_)
      · refine G.reg tfine rfl trivial ?_
        rw [e3, if_pos (show upB 4 (of3 a b c).1 (of3 a b c).2.1 c = true from h3)]
        exact ⟨(), trivial, St.le_of rfl trivial ⟨rfl, trivial⟩⟩
      · rw [if_neg (show ¬ upB 4 (of3 a b c).1 (of3 a b c).2.1 c = true from fun h4 => by rw [show upB 4 (of3 a b c).1 (of3 a b c).2.1 c = _ from h3] at h4; cases h4)]
        exact G.skip ⟨(), trivial, St.le_of rfl trivial ⟨rfl, trivial⟩⟩
  refine G.seq (G.seqR tfine rfl trivial ?_)
  refine G.cond rfl (fun h3 => ?_) (fun h3 => ?_)
  · refine G.seqR tfine rfl trivial ?_
    refine G.ret (endK.ret rfl ?_)
    rw [prod2, h, h2, h3]; rfl
  refine G.skip ?_
  refine G.seqR tfine rfl trivial ?_
  refine G.ret (endK.ret rfl ?_)
  rw [prod2, h, h2, h3]; rfl
end Go.Proofs.Ytiicemgngccicaa
