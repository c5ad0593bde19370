/- Chapter 02: the proportion; the product. -/
import Derived.Test.YtiicemgngccicaaS
set_option linter.unusedVariables false
set_option linter.unusedSimpArgs false
namespace Go.Proofs.Ytiicemgngccicaa
open Go.Sx Go.RowKit
def amtB (n : Int) : Bool := decide (n ≥ 0) && decide (n ≤ 128849018880000)
theorem amtB_true {n : Int} (h : amtB n = true) : 0 ≤ n ∧ n ≤ M := by simpa [amtB] using h
theorem amount_any (n : Int) (w : World) : Calls Try.prog 82 #[I n] w fun e w' => e = .returned (.bool (amtB n)) ∧ Below w.heap.size w w' := by
  refine enterPlain tfine Try.func82 rfl 9 Try.ntmps82 [.c (.k (I n))] [] rfl rfl trivial ⟨trivial, trivial⟩ ?_
  refine G.seqR tfine rfl trivial ?_
  refine G.seqR tfine rfl ?_ ?_
  · simp [AllP, condB]
  exact G.ret (endK.ret rfl (vb rfl))
theorem notAmount_any (n : Int) (w : World) : Calls Try.prog 81 #[I n] w fun e w' => e = .returned (.bool (!amtB n)) ∧ Below w.heap.size w w' := by
  refine enterPlain tfine Try.func81 rfl 6 Try.ntmps81 [.c (.k (I n))] [] rfl rfl trivial ⟨trivial, trivial⟩ ?_
  refine G.seqR tfine rfl trivial ?_
  refine G.seqC tfine rfl trivial ?_
  refine GO.callPlain rfl rfl rfl rfl (fun args w => Try.call82 args w) (fun ρ w hm _ => amount_any _ w) ?_
  refine GO.fin tfine rfl trivial ?_
  exact G.ret (endK.ret rfl (vb rfl))
theorem amounts_any (A : Option Addr) (c : Nat) (l : List Int) (w : World) (hl : RdRow w A l.length 1 (elI l)) (hm : l.length ≤ 4611686018427387904) :
    Calls Try.prog 73 #[.slice A l.length c] w fun e w' => e = .returned (.bool (!(l.any fun n => !amtB n))) ∧ Below w.heap.size w w' := by
  refine enterPlain tfine Try.func73 rfl 6 Try.ntmps73 [.c (.inp 1000 A l.length c)] [⟨1000, A, 1, l.length, elI l⟩] rfl rfl ⟨hl, trivial⟩ ⟨.inl ⟨rfl, rfl, rfl⟩, trivial⟩ ?_
  refine G.seqR tfine rfl trivial ?_
  refine G.seqC tfine rfl trivial ?_
  refine GO.callPlain rfl rfl rfl rfl (fun args w => Try.call80 args w) (fun ρ w hs hok => containsFunc_any 81 (fun n => !amtB n) (fun args w => Try.call81 args w) notAmount_any A c l w (hs.row rfl (hok _ List.mem_cons_self)) hm) ?_
  refine GO.fin tfine rfl trivial ?_
  rw [firstI_any, any_getD (fun n => !amtB n)]
  exact G.ret (endK.ret rfl (vb rfl))
theorem product_any (x y : Nat) (hx : x < 9223372036854775808) (hy : y < 9223372036854775808) (w : World) :
    Calls Try.prog 83 #[I x, I y] w fun e w' => e = .returned (.agg #[U (x * y / 18446744073709551616 : Nat), U (x * y % 18446744073709551616 : Nat)]) ∧ Below w.heap.size w w' := by
  refine enterPlain tfine Try.func83 rfl 18 Try.ntmps83 [.c (.k (I x)), .c (.k (I y))] [] rfl rfl trivial ⟨trivial, trivial, trivial⟩ ?_
  refine G.seqR tfine rfl trivial ?_
  refine G.seqC tfine rfl trivial ?_
  rw [wrapU x (by omega), wrapU y (by omega)]
  refine GO.callPlain rfl rfl rfl rfl (fun args w => Try.call91 args w) (fun ρ w hm _ => mul64_any x y (by omega) (by omega) w) ?_
  refine GO.fin tfine rfl trivial ?_
  refine G.seqR tfine rfl trivial ?_
  exact G.ret (endK.ret rfl rfl)
def dvd3 (a b c : Nat) : Int × Int × Bool := if decide (a * b / c > 128849018880000) = true then (0, 0, false) else ((a * b / c : Nat), (a * b % c : Nat), true)
theorem divided_any (a b c : Nat) (ha : a ≤ 128849018880000) (hb : b ≤ 128849018880000) (hc : 0 < c ∧ c ≤ 128849018880000) (w : World) :
    Calls Try.prog 74 #[I a, I b, I c] w fun e w' => e = .returned (.tuple #[I (dvd3 a b c).1, I (dvd3 a b c).2.1, .bool (dvd3 a b c).2.2]) ∧ Below w.heap.size w w' := by
  refine enterPlain tfine Try.func74 rfl 36 Try.ntmps74 [.c (.k (I a)), .c (.k (I b)), .c (.k (I c))] [] rfl rfl trivial ⟨trivial, trivial, trivial, trivial⟩ ?_
  obtain ⟨p, hp⟩ : ∃ p, p = a * b := ⟨_, rfl⟩
  have hpl : p ≤ 128849018880000 * 128849018880000 := by rw [hp]; exact Nat.mul_le_mul ha hb
  obtain ⟨x, hx⟩ : ∃ x, x = p / 18446744073709551616 := ⟨_, rfl⟩
  obtain ⟨y, hy⟩ : ∃ y, y = p % 18446744073709551616 := ⟨_, rfl⟩
  have hxy : x * 18446744073709551616 + y = p := by omega
  refine G.seqR tfine rfl trivial ?_
  refine G.seqC tfine rfl trivial ?_
  refine GO.callPlain rfl rfl rfl rfl (fun args w => Try.call83 args w) (fun ρ w hm _ => product_any a b (by omega) (by omega) w) ?_
  rw [← hp, ← hx, ← hy]
  refine GO.fin tfine rfl trivial ?_
  refine G.seq (G.seqR tfine rfl ⟨by decide, by decide, by decide, trivial⟩ ?_)
  rw [wrapU c (by omega)]
  refine G.cond rfl (fun h => ?_) (fun h => ?_)
  · have h := of_decide_eq_true h
    have hbig : a * b / c > 128849018880000 := by
      rw [← hp]
      have h1 : 18446744073709551616 ≤ p / c := (Nat.le_div_iff_mul_le hc.1).2 (by
        have : 18446744073709551616 * c ≤ 18446744073709551616 * x := Nat.mul_le_mul_left _ (by omega)
        omega)
      omega
    refine G.seqR tfine rfl trivial ?_
    refine G.ret (endK.ret rfl ?_)
    rw [dvd3, decide_eq_true hbig]; rfl
  have h := of_decide_eq_false h
  refine G.skip ?_
  refine G.seqC tfine rfl ⟨by decide, by decide, by decide, by decide, by decide, by decide, trivial⟩ ?_
  rw [wrapU c (by omega)]
  refine GO.callPlain rfl rfl rfl rfl (fun args w => Try.call84 args w) (fun ρ w hm _ => div64_any x y c (by omega) (by omega) (by omega) w) ?_
  rw [hxy, hp]
  refine GO.fin tfine rfl trivial ?_
  refine G.seq (G.seqR tfine rfl trivial ?_)
  have h2 : decide (((a * b / c : Nat) : Int) > 128849018880000) = decide (a * b / c > 128849018880000) := by
    generalize a * b / c = q
    rw [Bool.eq_iff_iff]; simp; omega
  rw [h2]
  refine G.cond rfl (fun h => ?_) (fun h => ?_)
  · refine G.seqR tfine rfl trivial ?_
    refine G.ret (endK.ret rfl ?_)
    rw [dvd3, h]; rfl
  refine G.skip ?_
  refine G.seqR tfine rfl trivial ?_
  have h3 := of_decide_eq_false h
  have h4 := Nat.mod_lt (a * b) hc.1
  rw [IntWalk.i64_in ((a * b / c : Nat) : Int) (by generalize a * b / c = q at *; omega), IntWalk.i64_in ((a * b % c : Nat) : Int) (by generalize a * b % c = q at *; omega)]
  refine G.ret (endK.ret rfl ?_)
  rw [dvd3, h]; rfl
def of3 (a b c : Int) : Int × Int × Int := if (!(!([a, b, c].any fun n => !amtB n))) = true then (0, 0, 2) else if (c == 0) = true then (0, 0, 16) else if (!(dvd3 a.toNat b.toNat c.toNat).2.2) = true then (0, 0, 15) else ((dvd3 a.toNat b.toNat c.toNat).1, (dvd3 a.toNat b.toNat c.toNat).2.1, 0)
theorem of_any (a b c : Int) (w : World) :
    Calls Try.prog 68 #[I a, I b, I c] w fun e w' => e = .returned (.tuple #[I (of3 a b c).1, I (of3 a b c).2.1, I (of3 a b c).2.2]) ∧ Below w.heap.size w w' := by
  refine enterPlain tfine Try.func68 rfl 32 Try.ntmps68 [.c (.k (I a)), .c (.k (I b)), .c (.k (I c))] [] rfl rfl trivial ⟨trivial, trivial, trivial, trivial⟩ ?_
  refine G.seqR tfine rfl trivial ?_
  refine G.seq (G.seqC tfine rfl trivial ?_)
  refine GO.callPlain rfl rfl rfl rfl (fun args w => Try.call73 args w) (fun ρ w hs hok => amounts_any _ 3 [a, b, c] w ((hs.rdVar (sz := 1) (vs := [I a, I b, I c]) rfl 0 3 (by simp)).congr fun i hi => ?_) (by simp)) ?_
  · have hi : i < 3 := hi
    rcases (show i = 0 ∨ i = 1 ∨ i = 2 by omega) with rfl | rfl | rfl <;> rfl
  refine GO.fin tfine rfl trivial ?_
  refine G.cond rfl (fun h => ?_) (fun h => ?_)
  · refine G.seqR tfine rfl trivial ?_
    refine G.ret (endK.ret rfl ?_)
    rw [of3, h]; rfl
  refine G.skip ?_
  refine G.seq (G.seqR tfine rfl trivial ?_)
  refine G.cond rfl (fun h2 => ?_) (fun h2 => ?_)
  · refine G.seqR tfine rfl trivial ?_
    refine G.ret (endK.ret rfl ?_)
    rw [of3, h, h2]; rfl
  refine G.skip ?_
  have hall : amtB a = true ∧ amtB b = true ∧ amtB c = true := by simpa using h
  have ha := amtB_true hall.1
  have hb := amtB_true hall.2.1
  have hc := amtB_true hall.2.2
  have hc0 : c ≠ 0 := by simpa using h2
  refine G.seqC tfine rfl trivial ?_
  obtain ⟨na, rfl⟩ := Int.eq_ofNat_of_zero_le ha.1
  obtain ⟨nb, rfl⟩ := Int.eq_ofNat_of_zero_le hb.1
  obtain ⟨nc, rfl⟩ := Int.eq_ofNat_of_zero_le hc.1
  refine GO.callPlain rfl rfl rfl rfl (fun args w => Try.call74 args w) (fun ρ w hm _ => divided_any na nb nc (by unfold M at *; omega) (by unfold M at *; omega) (by unfold M at *; omega) w) ?_
  refine GO.fin tfine rfl trivial ?_
  refine G.seq (G.seqR tfine rfl trivial ?_)
  refine G.cond rfl (fun h3 => ?_) (fun h3 => ?_)
  · refine G.seqR tfine rfl trivial ?_
    refine G.ret (endK.ret rfl ?_)
    rw [of3, h, h2]
    simp only [Int.toNat_natCast, h3]; rfl
  refine G.skip ?_
  refine G.seqR tfine rfl trivial ?_
  refine G.ret (endK.ret rfl ?_)
  rw [of3, h, h2]
  simp only [Int.toNat_natCast, h3]; rfl
end Go.Proofs.Ytiicemgngccicaa
