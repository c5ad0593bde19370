/- Chapter 02: the reference's proportion, bit by bit. -/
import Derived.Test.YtiicemgngccicaaV
import Derived.Test.YtiicemgngccicaaI
set_option linter.unusedVariables false
set_option linter.unusedSimpArgs false
set_option maxRecDepth 8000
set_option maxHeartbeats 1000000
namespace Go.Proofs.Ytiicemgngccicaa
open Go.Sx Go.RowKit
def wv (n : Nat) : Value := .agg #[U (n / 4611686018427387904 : Nat), U (n % 4611686018427387904 : Nat)]
/-- what Of answers: quotient, rest, whether the quotient is within the limit -/
def refOf (a b c most : Nat) : Int × Int × Bool := if a * b / c ≤ most then ((a * b / c : Nat), (a * b % c : Nat), true) else (0, 0, false)
theorem lessC_any (a c : Nat) (hc : c < 4611686018427387904) (w : World) :
    Calls Try.prog 99 #[.agg #[U (a / 4611686018427387904 : Nat), U (a % 4611686018427387904 : Nat)], .agg #[U 0, U c]] w fun e w' => e = .returned (.bool (decide (a < c))) ∧ Below w.heap.size w w' := by
  have := less_any a c w
  rw [Nat.div_eq_of_lt hc, Nat.mod_eq_of_lt hc] at this
  exact this
theorem reach_iff (p c q bit most : Nat) (hc : 0 < c) (hT : p / c ≤ most) : (decide ((q + bit : Int) ≤ most) && !decide (p < (q + bit) * c)) = decide (q + bit ≤ p / c) := by
  have h := Nat.le_div_iff_mul_le hc (x := q + bit) (y := p)
  by_cases h1 : q + bit ≤ p / c
  · have := h.1 h1
    simp [h1]; omega
  · have : ¬ (q + bit) * c ≤ p := fun h2 => h1 (h.2 h2)
    simp [h1]; omega
theorem half_pow (i : Nat) : 2 ^ (i + 1) / 2 = 2 ^ i := by rw [Nat.pow_succ]; exact Nat.mul_div_cancel _ (by omega)
def ofS (c most p q bit : Nat) : St := St.of [(2, .v (.c (.k (I c)))), (3, .v (.c (.k (I most)))), (11, .v (.c (.ptr 11 0 0 0))), (12, .v (.c (.k (I q)))), (13, .v (.c (.k (I bit))))]
  [(11, .var 112 [.k (U (p / 4611686018427387904 : Nat)), .k (U (p % 4611686018427387904 : Nat))])]
theorem refOf_any (a b c most : Nat) (ha : a ≤ 128849018880000) (hb : b ≤ 128849018880000) (hc : 0 < c ∧ c ≤ 128849018880000) (hm : most ≤ 128849018880000) (w : World) :
    Calls Try.prog 89 #[I a, I b, I c, I most] w fun e w' => e = .returned (.tuple #[I (refOf a b c most).1, I (refOf a b c most).2.1, .bool (refOf a b c most).2.2]) ∧ Below w.heap.size w w' := by
  refine enterPlain tfine Try.func89 rfl 64 Try.ntmps89 [.c (.k (I a)), .c (.k (I b)), .c (.k (I c)), .c (.k (I most))] [] rfl rfl trivial ⟨trivial, trivial, trivial, trivial, trivial⟩ ?_
  obtain ⟨p, hp⟩ : ∃ p, p = a * b := ⟨_, rfl⟩
  have hpl : p ≤ 128849018880000 * 128849018880000 := by rw [hp]; exact Nat.mul_le_mul ha hb
  refine G.seqR tfine rfl trivial ?_
  refine G.seqC tfine rfl trivial ?_
  refine GO.callPlain rfl rfl rfl rfl (fun args w => Try.call98 args w) (fun ρ w _ _ => refProd_any a b (by omega) (by omega) w) ?_
  rw [← hp]
  refine GO.fin tfine rfl trivial ?_
  have hmc : most * c ≤ 128849018880000 * 128849018880000 := Nat.mul_le_mul hm hc.2
  refine G.seq (G.seqDraw hmix [0, 0, 3, 0, 15, 31, 63, 63, 63, 447, 1023, 63, 2111, 6207, 16383, 32767, 65535] [] rfl rfl rfl ?_)
  refine GD.more tfine 0 rfl rfl trivial ?_
  refine GD.call 2 rfl rfl rfl rfl rfl (fun args w => Try.call98 args w) (fun m _ ρ w _ _ => refProd_any most c (by omega) (by omega) w) ?_
  refine GD.more tfine 3 rfl rfl trivial ?_
  refine GD.call 4 rfl rfl rfl rfl rfl (fun args w => Try.call99 args w) (fun m _ ρ w _ _ => less_any (most * c) p w) ?_
  refine GD.more tfine 5 rfl rfl ?_ ?_
  · simp [AllP, condB]
  refine GD.callGuard (.agg #[U (most * c / 4611686018427387904 : Nat), U (most * c % 4611686018427387904 : Nat)]) 9 rfl rfl rfl rfl (by first | exact trivial | exact ⟨id, trivial⟩ | exact ⟨id, id, trivial⟩) rfl rfl (fun args w => Try.call98 args w) rfl (fun _ m _ ρ w _ _ => refProd_any most c (by omega) (by omega) w) ?_
  refine GD.callGuard (.agg #[U ((p - most * c) / 4611686018427387904 : Nat), U ((p - most * c) % 4611686018427387904 : Nat)]) 10 rfl rfl rfl rfl (by first | exact trivial | exact ⟨id, trivial⟩ | exact ⟨id, id, trivial⟩) rfl rfl (fun args w => Try.call100 args w) rfl (fun hcb m _ ρ w _ _ => minus_any p (most * c) (by have := of_decide_eq_true (show decide (most * c < p) = true from hcb); omega) (by omega) w) ?_
  refine GD.more tfine 11 rfl rfl ?_ ?_
  · simp [AllP, condB]
  rw [wrapU c (by omega)]
  refine GD.callGuard (.bool (decide (p - most * c < c))) 14 rfl rfl rfl rfl (by first | exact trivial | exact ⟨id, trivial⟩ | exact ⟨id, id, trivial⟩) rfl rfl (fun args w => Try.call99 args w) rfl (fun _ m _ ρ w _ _ => lessC_any (p - most * c) c (by omega) w) ?_
  refine GD.fin tfine 15 rfl rfl ?_ ?_
  · simp [AllP, condB]
  have hgr : (decide (most * c < p) && !decide (p - most * c < c)) = decide (most < p / c) := by
    have h := Nat.le_div_iff_mul_le hc.1 (x := most + 1) (y := p)
    rw [Nat.add_mul, Nat.one_mul] at h
    by_cases h1 : most < p / c
    · have := h.1 h1
      simp [h1]; omega
    · have : ¬ most * c + c ≤ p := fun h2 => h1 (h.2 h2)
      simp [h1]; omega
  rw [hgr]
  refine G.cond rfl (fun h => ?_) (fun h => ?_)
  · refine G.seqR tfine rfl trivial ?_
    refine G.ret (endK.ret rfl ?_)
    have h := of_decide_eq_true h
    rw [hp] at h
    simp only [refOf, if_neg (show ¬ a * b / c ≤ most by omega)]
  have hT : p / c ≤ most := by have := of_decide_eq_false h; omega
  refine G.skip ?_
  refine G.seqR tfine rfl trivial ?_
  refine G.seq (G.seqR tfine rfl trivial ?_)
  refine G.block (G.loop (fun z : Nat × Nat => ofS c most p z.1 (2 ^ z.2 / 2)) (fun z => z.2 ≤ 62 ∧ z.1 ≤ p / c ∧ p / c < z.1 + 2 ^ z.2) (fun z => z.2) (0, 62) ⟨Nat.le_refl _, Nat.zero_le _, by show p / c < 0 + 2 ^ 62; rw [Nat.zero_add]; exact Nat.lt_of_le_of_lt hT (by omega)⟩
    (St.le_of rfl ⟨⟨_, rfl, Blk.le_refl _⟩, trivial⟩ ⟨rfl, rfl, rfl, rfl, rfl, trivial⟩) ?_)
  rintro ⟨q, j⟩ ⟨hj, hq1, hq2⟩
  obtain ⟨bit, hbit⟩ : ∃ bit, bit = 2 ^ j / 2 := ⟨_, rfl⟩
  simp only at hj hq1 hq2
  show G _ _ _ _ (ofS c most p q (2 ^ j / 2))
  rw [← hbit]
  refine G.seq (G.seqR tfine rfl trivial ?_)
  refine G.cond rfl (fun h2 => ?_) (fun h2 => ?_)
  rotate_left
  · have h2 := of_decide_eq_false h2
    have hj0 : j = 0 := by
      rcases j with _ | i
      · rfl
      · rw [half_pow] at hbit
        have := Nat.two_pow_pos i
        omega
    subst hj0
    have hqe : q = p / c := by omega
    subst hqe
    refine G.exit ?_
    refine G.seqDraw hmix [0, 0, 0, 0, 12, 30, 62, 126, 63, 511, 1023] [] rfl rfl rfl ?_
    refine GD.more tfine 0 rfl rfl trivial ?_
    refine GD.call 4 rfl rfl rfl rfl rfl (fun args w => Try.call98 args w) (fun m _ ρ w _ _ => refProd_any (p / c) c (by omega) (by omega) w) ?_
    have hdm := Nat.div_add_mod p c
    rw [Nat.mul_comm] at hdm
    have hlt := Nat.mod_lt p hc.1
    refine GD.call 5 rfl rfl rfl rfl rfl (fun args w => Try.call100 args w) (fun m _ ρ w _ _ => minus_any p (p / c * c) (by omega) (by omega) w) ?_
    have hmod : p - p / c * c = p % c := by omega
    rw [hmod, Nat.div_eq_of_lt (show p % c < 4611686018427387904 by omega), Nat.mod_eq_of_lt (show p % c < 4611686018427387904 by omega)]
    refine GD.fin tfine 6 rfl rfl trivial ?_
    rw [IntWalk.i64_in _ (by omega)]
    refine G.ret (endK.ret rfl ?_)
    rw [hp] at hT ⊢
    simp only [refOf, if_pos hT]
  have h2 := of_decide_eq_true h2
  refine G.skip ?_
  rcases j with _ | i
  · exact absurd h2 (by rw [hbit]; decide)
  rw [half_pow] at hbit
  have hle : bit ≤ 2 ^ 61 := by rw [hbit]; exact Nat.pow_le_pow_right (by omega) (by omega)
  have hpow : 2 ^ (i + 1) = bit + bit := by rw [hbit, Nat.pow_succ]; omega
  rw [hpow] at hq2
  refine G.seq (G.block ?_)
  refine G.seqDraw hmix [0, 0, 3, 0, 15, 31, 63, 63, 63, 447, 63, 1983, 4095, 8191, 16383] [] rfl rfl rfl ?_
  refine GD.more tfine 0 rfl rfl ?_ ?_
  · simp [AllP, condB]
  rw [IntWalk.i64_in ((q : Int) + bit) (by omega)]
  refine GD.callGuard (wv ((q + bit) * c)) 11 rfl rfl rfl rfl (by first | exact trivial | exact ⟨id, trivial⟩ | exact ⟨id, id, trivial⟩) rfl rfl (fun args w => Try.call98 args w) rfl (fun hcb m _ ρ w _ _ => refProd_any (q + bit) c (by have := of_decide_eq_true (show decide ((q : Int) + bit ≤ most) = true from hcb); omega) (by omega) w) ?_
  refine GD.callGuard (.bool (decide (p < (q + bit) * c))) 12 rfl rfl rfl rfl (by first | exact trivial | exact ⟨id, trivial⟩ | exact ⟨id, id, trivial⟩) rfl rfl (fun args w => Try.call99 args w) rfl (fun _ m _ ρ w _ _ => less_any p ((q + bit) * c) w) ?_
  refine GD.fin tfine 13 rfl rfl ?_ ?_
  · simp [AllP, condB]
  rw [reach_iff p c q bit most hc.1 hT]
  have hbi : IntKind.i64.wrap ((bit : Int).tdiv 2) = ((2 ^ i / 2 : Nat) : Int) := by
    rw [hbit, show (2 : Int) = ((2 : Nat) : Int) from rfl, ← Int.ofNat_tdiv]
    exact IntWalk.i64_in _ (by have : 2 ^ i / 2 ≤ 2 ^ i := Nat.div_le_self _ _; omega)
  refine G.cond rfl (fun h3 => ?_) (fun h3 => ?_)
  · have h3 := of_decide_eq_true h3
    refine G.reg tfine rfl trivial ?_
    rw [IntWalk.i64_in ((q : Int) + bit) (by omega)]
    refine G.reg tfine rfl ⟨by decide, trivial⟩ ?_
    rw [hbi]
    exact ⟨(q + bit, i), ⟨by omega, h3, by rw [← hbit]; omega⟩, Nat.lt_succ_self _, St.le_of rfl ⟨⟨_, rfl, Blk.le_refl _⟩, trivial⟩ ⟨rfl, rfl, rfl, rfl, rfl, trivial⟩⟩
  · have h3 := of_decide_eq_false h3
    refine G.skip ?_
    refine G.reg tfine rfl ⟨by decide, trivial⟩ ?_
    rw [hbi]
    exact ⟨(q, i), ⟨by omega, hq1, by rw [← hbit]; omega⟩, Nat.lt_succ_self _, St.le_of rfl ⟨⟨_, rfl, Blk.le_refl _⟩, trivial⟩ ⟨rfl, rfl, rfl, rfl, rfl, trivial⟩⟩
end Go.Proofs.Ytiicemgngccicaa
