/- Chapter 02: the quotient of two words by one, for all that is less than a word. -/
import Derived.Test.YtiicemgngccicaaQ
set_option linter.unusedVariables false
set_option linter.unusedSimpArgs false
set_option maxRecDepth 8000
namespace Go.Proofs.Ytiicemgngccicaa
open Go.Sx Go.RowKit
theorem pow_min (s : Nat) (hs : s ≤ 64) : (2 : Int) ^ (min ((s : Nat) : Int).toNat IntKind.u64.bits) = ((2 ^ s : Nat) : Int) := by
  rw [Int.toNat_natCast, show IntKind.u64.bits = 64 from rfl, Nat.min_eq_left hs]; simp
theorem shlN (n s : Nat) (hs : s ≤ 64) (h : n * 2 ^ s < 18446744073709551616) : IntKind.u64.wrap ((n : Int) * 2 ^ (min ((s : Nat) : Int).toNat IntKind.u64.bits)) = ((n * 2 ^ s : Nat) : Int) := by
  rw [pow_min s hs, mulU _ _ h]
theorem shlW (n s : Nat) (hs : s ≤ 64) : IntKind.u64.wrap ((n : Int) * 2 ^ (min ((s : Nat) : Int).toNat IntKind.u64.bits)) = ((n * 2 ^ s % 18446744073709551616 : Nat) : Int) := by
  rw [pow_min s hs, mulW]
theorem orN (a b s : Nat) (hb : b < 2 ^ s) (h : a * 2 ^ s + b < 18446744073709551616) : bitsOp .or .u64 ((a * 2 ^ s : Nat) : Int) (b : Int) = ((a * 2 ^ s + b : Nat) : Int) := by
  show IntKind.u64.wrap (((BitVec.ofInt 64 ((a * 2 ^ s : Nat) : Int) ||| BitVec.ofInt 64 (b : Int)).toNat : Nat) : Int) = _
  rw [BitVec.ofInt_natCast, BitVec.ofInt_natCast, BitVec.toNat_or, BitVec.toNat_ofNat, BitVec.toNat_ofNat, Nat.mod_eq_of_lt (show a * 2 ^ s < 2 ^ 64 by omega), Nat.mod_eq_of_lt (show b < 2 ^ 64 by omega),
    ← Nat.shiftLeft_eq, ← Nat.shiftLeft_add_eq_or_of_lt hb, Nat.shiftLeft_eq, wrapU _ h]
theorem quoN (u v : Nat) (hu : u < 18446744073709551616) : IntKind.u64.wrap ((u : Int).tdiv (v : Int)) = ((u / v : Nat) : Int) := by
  rw [← Int.ofNat_tdiv, wrapU]
  exact Nat.lt_of_le_of_lt (Nat.div_le_self _ _) hu
theorem subN (a b : Nat) (h : b ≤ a) (ha : a < 18446744073709551616) : IntKind.u64.wrap ((a : Int) - (b : Int)) = ((a - b : Nat) : Int) := by
  rw [← Int.natCast_sub h, wrapU]
  omega
theorem restN (u k q v : Nat) (h : q * v ≤ u * 4294967296 + k) (hl : u * 4294967296 + k - q * v < 18446744073709551616) :
    IntKind.u64.wrap (IntKind.u64.wrap (IntKind.u64.wrap ((u : Int) * 4294967296) + (k : Int)) - IntKind.u64.wrap ((q : Int) * (v : Int))) = ((u * 4294967296 + k - q * v : Nat) : Int) := by
  rw [← Int.natCast_mul q v]
  generalize q * v = p at *
  simp only [IntKind.wrap_u64]
  omega
/-- The two digits together. -/
theorem digits_eq {X d s V u k1 k0 q1 u2 q0 : Nat} (hd : 0 < d) (hV : V = d * 2 ^ s) (hX : X * 2 ^ s = u * 18446744073709551616 + (k1 * 4294967296 + k0)) (h1 : q1 = (u * 4294967296 + k1) / V) (h2 : u2 = (u * 4294967296 + k1) % V) (h0 : q0 = (u2 * 4294967296 + k0) / V) :
    q1 * 4294967296 + q0 = X / d ∧ (u2 * 4294967296 + k0) % V / 2 ^ s = X % d := by
  have hp := Nat.two_pow_pos s
  have hVp : 0 < V := by rw [hV]; exact Nat.mul_pos hd hp
  have m1 := Nat.div_add_mod' (u * 4294967296 + k1) V
  have m2 := Nat.div_add_mod' (u2 * 4294967296 + k0) V
  have hr := Nat.mod_lt (u2 * 4294967296 + k0) hVp
  rw [← h1, ← h2] at m1
  rw [← h0] at m2
  have e : X * 2 ^ s = (q1 * 4294967296 + q0) * V + (u2 * 4294967296 + k0) % V := by
    rw [Nat.add_mul, Nat.mul_right_comm q1]
    obtain ⟨a, ha⟩ : ∃ a, a = q1 * V := ⟨_, rfl⟩
    obtain ⟨b, hb⟩ : ∃ b, b = q0 * V := ⟨_, rfl⟩
    rw [← ha] at m1 ⊢
    rw [← hb] at m2 ⊢
    rw [hX]
    clear h1 h2 h0 hr hX hV ha hb
    omega
  have e1 : X / d = X * 2 ^ s / V := by rw [hV, Nat.mul_div_mul_right _ _ hp]
  have e2 : X % d * 2 ^ s = X * 2 ^ s % V := by rw [hV, Nat.mul_mod_mul_right]
  have f1 : X * 2 ^ s / V = q1 * 4294967296 + q0 := by
    rw [e, Nat.mul_comm _ V, Nat.mul_add_div hVp, Nat.div_eq_of_lt hr, Nat.add_zero]
  have f2 : X * 2 ^ s % V = (u2 * 4294967296 + k0) % V := by
    rw [e, Nat.mul_comm _ V, Nat.mul_add_mod, Nat.mod_eq_of_lt hr]
  refine ⟨by rw [e1, f1], ?_⟩
  rw [← f2, ← e2, Nat.mul_div_cancel _ hp]
theorem test_iff {q v0 r k : Nat} (h0 : v0 < 4294967296) (hr : r < 4294967296) (hk : k < 4294967296) :
    (decide ((q : Int) ≥ 4294967296) || decide (IntKind.u64.wrap ((q : Int) * (v0 : Int)) > IntKind.u64.wrap (IntKind.u64.wrap (4294967296 * (r : Int)) + (k : Int)))) = decide (4294967296 ≤ q ∨ 4294967296 * r + k < q * v0) := by
  have e2 : IntKind.u64.wrap (IntKind.u64.wrap (4294967296 * (r : Int)) + (k : Int)) = ((4294967296 * r + k : Nat) : Int) := by
    simp only [IntKind.wrap_u64]; omega
  rw [e2]
  rcases Nat.lt_or_ge q 4294967296 with hq | hq
  · have hqv : q * v0 < 18446744073709551616 := Nat.mul_lt_mul'' hq h0
    rw [mulU q v0 hqv]
    have h1 : decide ((q : Int) ≥ 4294967296) = false := by simp; omega
    rw [h1, Bool.false_or]
    generalize q * v0 = p
    rw [Bool.eq_iff_iff, decide_eq_true_eq, decide_eq_true_eq]
    omega
  · have h1 : decide ((q : Int) ≥ 4294967296) = true := by simp; omega
    rw [h1, Bool.true_or]
    exact (decide_eq_true (Or.inl hq)).symm
theorem predN (q : Nat) (h : 1 ≤ q) (hq : q < 18446744073709551616) : IntKind.u64.wrap ((q : Int) - 1) = ((q - 1 : Nat) : Int) := by
  rw [show (q : Int) - 1 = ((q - 1 : Nat) : Int) by omega, wrapU]
  omega
theorem div64_any (x y d : Nat) (hx : x < d) (hy : y < 18446744073709551616) (hd : d < 18446744073709551616) (w : World) :
    Calls Try.prog 84 #[U x, U y, U d] w fun e w' => e = .returned (.tuple #[U ((x * 18446744073709551616 + y) / d : Nat), U ((x * 18446744073709551616 + y) % d : Nat)]) ∧ Below w.heap.size w w' := by
  by_cases hx0 : x = 0
  · subst hx0
    have := div64_low y d hy ⟨by omega, hd⟩ w
    simpa using this
  have hd0 : 0 < d := by omega
  obtain ⟨nb, nb1, nv1, nv2⟩ := norm_bounds hd0 hd
  obtain ⟨s, hs⟩ : ∃ s, s = 64 - bitLen d := ⟨_, rfl⟩
  have hsI : ((64 : Int) - (bitLen d : Nat)) = (s : Int) := by omega
  have hs64 : s ≤ 64 := by omega
  rw [← hs] at nv1 nv2
  obtain ⟨V, hV⟩ : ∃ V, V = d * 2 ^ s := ⟨_, rfl⟩
  rw [← hV] at nv1 nv2
  obtain ⟨u, hu⟩ : ∃ u, u = x * 2 ^ s + y / 2 ^ (64 - s) := ⟨_, rfl⟩
  have huV : u < V := by rw [hu, hV]; exact two_digits hs64 hx hy
  have hhi := high_part y s hs64 hy
  obtain ⟨L, hL⟩ : ∃ L, L = y * 2 ^ s % 18446744073709551616 := ⟨_, rfl⟩
  have hLlt : L < 18446744073709551616 := by rw [hL]; exact Nat.mod_lt _ (by omega)
  have hX : (x * 18446744073709551616 + y) * 2 ^ s = u * 18446744073709551616 + (L / 4294967296 * 4294967296 + L % 4294967296) := by
    have h1 := low_moved y s hs64
    rw [← hL] at h1
    rw [Nat.add_mul, h1, hu, Nat.add_mul, Nat.mul_right_comm x, Nat.div_add_mod' L 4294967296]
    exact (Nat.add_assoc _ _ _).symm
  have hxs : x * 2 ^ s < 18446744073709551616 := by
    have : x * 2 ^ s ≤ u := by rw [hu]; exact Nat.le_add_right _ _
    omega
  obtain ⟨v1, hv1⟩ : ∃ v1, v1 = V / 4294967296 := ⟨_, rfl⟩
  obtain ⟨v0, hv0⟩ : ∃ v0, v0 = V % 4294967296 := ⟨_, rfl⟩
  have hVv : V = v1 * 4294967296 + v0 := by omega
  have hv1p : 2147483648 ≤ v1 ∧ v1 < 4294967296 := by omega
  have hv0l : v0 < 4294967296 := by omega
  have hVp : 0 < V := by omega
  refine enterPlain tfine Try.func84 rfl 135 Try.ntmps84 [.c (.k (U x)), .c (.k (U y)), .c (.k (U d))] [] rfl rfl trivial ⟨trivial, trivial, trivial, trivial⟩ ?_
  refine G.seqR tfine rfl trivial ?_
  refine G.seq (G.seqR tfine rfl trivial ?_)
  have h1 : ((d : Int) == 0) = false := by simp; omega
  rw [h1]
  refine G.cond_false rfl (G.skip ?_)
  refine G.seq (G.seqR tfine rfl trivial ?_)
  have h2 : decide ((d : Int) ≤ (x : Int)) = false := by simp; omega
  rw [h2]
  refine G.cond_false rfl (G.skip ?_)
  refine G.seq (G.seqR tfine rfl trivial ?_)
  have h3 : ((x : Int) == 0) = false := by simp; omega
  rw [h3]
  refine G.cond_false rfl (G.skip ?_)
  refine G.seqC tfine rfl trivial ?_
  refine GO.callPlain rfl rfl rfl rfl (fun args w => Try.call92 args w) (fun ρ w hm _ => lead_any d hd w) ?_
  rw [hsI]
  refine GO.fin tfine rfl trivial ?_
  rw [wrapU s (by omega)]
  refine G.seqR tfine rfl ⟨by omega, trivial⟩ ?_
  rw [shlN d s hs64 (by rw [← hV]; exact nv2), ← hV]
  refine G.seqR tfine rfl ⟨by decide, trivial⟩ ?_
  rw [shr32, ← hv1]
  refine G.seqR tfine rfl trivial ?_
  rw [andLow V nv2, ← hv0]
  refine G.seqR tfine rfl ?_ ?_
  · rw [show IntKind.u64.wrap (64 - (s : Int)) = ((64 - s : Nat) : Int) by rw [← wrapU (64 - s) (by omega), Int.natCast_sub hs64]; rfl]
    exact ⟨by omega, by omega, trivial⟩
  rw [show IntKind.u64.wrap (64 - (s : Int)) = ((64 - s : Nat) : Int) by rw [← wrapU (64 - s) (by omega), Int.natCast_sub hs64]; rfl]
  rw [shlN x s hs64 hxs, shrN y (64 - s) (by omega), orN x _ s hhi (by rw [← hu]; omega), ← hu]
  refine G.seqR tfine rfl ⟨by omega, trivial⟩ ?_
  rw [shlW y s hs64, ← hL]
  refine G.seqR tfine rfl ⟨by decide, trivial⟩ ?_
  rw [shr32]
  refine G.seqR tfine rfl trivial ?_
  rw [andLow L hLlt]
  obtain ⟨k1, hk1⟩ : ∃ k1, k1 = L / 4294967296 := ⟨_, rfl⟩
  obtain ⟨k0, hk0⟩ : ∃ k0, k0 = L % 4294967296 := ⟨_, rfl⟩
  rw [← hk1, ← hk0] at hX ⊢
  have hk1l : k1 < 4294967296 := by omega
  have hk0l : k0 < 4294967296 := by omega
  have hul : u < 18446744073709551616 := by omega
  refine G.seqR tfine rfl ⟨by omega, trivial⟩ ?_
  rw [quoN u v1 hul]
  refine G.seqR tfine rfl trivial ?_
  have hq1 : u / v1 * v1 ≤ u := Nat.div_mul_le_self _ _
  rw [mulU (u / v1) v1 (by omega), subN u _ hq1 hul]
  obtain ⟨qt, hqt⟩ : ∃ qt, qt = (u * 4294967296 + k1) / V := ⟨_, rfl⟩
  refine G.join (fun _ : Unit => St.of [(2, .v (.c (.k (U V)))), (8, .v (.c (.k (U s)))), (9, .v (.c (.k (U v1)))), (10, .v (.c (.k (U v0)))), (11, .v (.c (.k (U u)))), (13, .v (.c (.k (U k1)))), (14, .v (.c (.k (U k0)))), (15, .v (.c (.k (U qt))))] []) (fun _ => True) ?_ fun _ _ => ?_
  · refine G.block (G.loop (fun z : Nat × Nat => St.of [(2, .v (.c (.k (U V)))), (8, .v (.c (.k (U s)))), (9, .v (.c (.k (U v1)))), (10, .v (.c (.k (U v0)))), (11, .v (.c (.k (U u)))), (13, .v (.c (.k (U k1)))), (14, .v (.c (.k (U k0)))), (15, .v (.c (.k (U z.1)))), (16, .v (.c (.k (U z.2))))] [])
      (fun z => z.1 * v1 + z.2 = u ∧ z.2 < 4294967296 ∧ qt ≤ z.1) (fun z => z.1) (u / v1, u - u / v1 * v1)
      ⟨by show u / v1 * v1 + (u - u / v1 * v1) = u; omega, ?_, by rw [hqt]; exact guess_ge hVv (by omega) hk1l⟩ (St.le_of rfl trivial ⟨rfl, rfl, rfl, rfl, rfl, rfl, rfl, rfl, rfl, trivial⟩) ?_)
    · have h1 := Nat.div_add_mod' u v1
      have h2 := Nat.mod_lt u (show 0 < v1 by omega)
      show u - u / v1 * v1 < _
      omega
    rintro ⟨q, r⟩ ⟨g1, g2, g3⟩
    simp only at g1 g2 g3
    refine G.seq (G.seqR tfine rfl ?_ ?_)
    · simp [AllP, condB]
    rw [test_iff hv0l g2 hk1l]
    refine G.cond rfl (fun h => ?_) (fun h => ?_)
    · have ht := of_decide_eq_true h
      have hgt : qt < q := by rw [hqt]; exact test_gt hVv huV hk1l g1 ht
      have hle : v1 ≤ q * v1 := Nat.le_mul_of_pos_left _ (by omega)
      have hql : q ≤ q * v1 := Nat.le_mul_of_pos_right _ (by omega)
      have hstep : (q - 1) * v1 + (r + v1) = u := by
        have : (q - 1) * v1 = q * v1 - v1 := by rw [Nat.sub_mul, Nat.one_mul]
        omega
      refine G.skip ?_
      refine G.block ?_
      refine G.seqR tfine rfl trivial ?_
      rw [predN q (by omega) (by omega)]
      refine G.seqR tfine rfl trivial ?_
      rw [addU r v1 (by omega)]
      refine G.seqR tfine rfl trivial ?_
      refine G.cond rfl (fun h5 => ?_) (fun h5 => ?_)
      · have h5 := of_decide_eq_true h5
        have hb : qt = q - 1 := by rw [hqt]; exact break_eq hVv (by omega) hv0l huV hstep (by omega) (by rw [← hqt]; omega)
        rw [hb]
        exact G.exit ⟨(), trivial, St.le_of rfl trivial ⟨rfl, rfl, rfl, rfl, rfl, rfl, rfl, rfl, trivial⟩⟩
      · have h5 := of_decide_eq_false h5
        exact G.skip ⟨(q - 1, r + v1), ⟨hstep, by show r + v1 < _; omega, by show qt ≤ q - 1; omega⟩, (by show q - 1 < q; omega), St.le_of rfl trivial ⟨rfl, rfl, rfl, rfl, rfl, rfl, rfl, rfl, rfl, trivial⟩⟩
    · have ht : ¬ (4294967296 ≤ q ∨ 4294967296 * r + k1 < q * v0) := of_decide_eq_false h
      have hb : qt = q := by rw [hqt]; exact test_eq hVv hVp g1 (by omega) (by rw [← hqt]; exact g3)
      rw [hb]
      exact G.exit ⟨(), trivial, St.le_of rfl trivial ⟨rfl, rfl, rfl, rfl, rfl, rfl, rfl, rfl, trivial⟩⟩
  have hrest := rest_lt (u := u) (d := k1) hVp
  have hmod := Nat.mod_lt (u * 4294967296 + k1) hVp
  rw [← hqt] at hrest
  obtain ⟨u2, hu2⟩ : ∃ u2, u2 = (u * 4294967296 + k1) % V := ⟨_, rfl⟩
  rw [← hu2] at hrest hmod
  have hu2l : u2 < 18446744073709551616 := by omega
  refine G.seqR tfine rfl trivial ?_
  rw [restN u k1 qt V hrest.2 (by omega), hrest.1]
  refine G.seqR tfine rfl ⟨by omega, trivial⟩ ?_
  rw [quoN u2 v1 hu2l]
  have hq2 : u2 / v1 * v1 ≤ u2 := Nat.div_mul_le_self _ _
  refine G.seqR tfine rfl trivial ?_
  rw [mulU (u2 / v1) v1 (by omega), subN u2 _ hq2 hu2l]
  obtain ⟨q2, hq2t⟩ : ∃ q2, q2 = (u2 * 4294967296 + k0) / V := ⟨_, rfl⟩
  refine G.join (fun _ : Unit => St.of [(2, .v (.c (.k (U V)))), (8, .v (.c (.k (U s)))), (14, .v (.c (.k (U k0)))), (15, .v (.c (.k (U qt)))), (17, .v (.c (.k (U u2)))), (18, .v (.c (.k (U q2))))] []) (fun _ => True) ?_ fun _ _ => ?_
  · refine G.block (G.loop (fun z : Nat × Nat => St.of [(2, .v (.c (.k (U V)))), (8, .v (.c (.k (U s)))), (9, .v (.c (.k (U v1)))), (10, .v (.c (.k (U v0)))), (14, .v (.c (.k (U k0)))), (15, .v (.c (.k (U qt)))), (17, .v (.c (.k (U u2)))), (18, .v (.c (.k (U z.1)))), (16, .v (.c (.k (U z.2))))] [])
      (fun z => z.1 * v1 + z.2 = u2 ∧ z.2 < 4294967296 ∧ q2 ≤ z.1) (fun z => z.1) (u2 / v1, u2 - u2 / v1 * v1)
      ⟨by show u2 / v1 * v1 + (u2 - u2 / v1 * v1) = u2; omega, ?_, by rw [hq2t]; exact guess_ge hVv (by omega) hk0l⟩ (St.le_of rfl trivial ⟨rfl, rfl, rfl, rfl, rfl, rfl, rfl, rfl, rfl, trivial⟩) ?_)
    · have h1 := Nat.div_add_mod' u2 v1
      have h2 := Nat.mod_lt u2 (show 0 < v1 by omega)
      show u2 - u2 / v1 * v1 < _
      omega
    rintro ⟨q, r⟩ ⟨g1, g2, g3⟩
    simp only at g1 g2 g3
    refine G.seq (G.seqR tfine rfl ?_ ?_)
    · simp [AllP, condB]
    rw [test_iff hv0l g2 hk0l]
    refine G.cond rfl (fun h => ?_) (fun h => ?_)
    · have ht := of_decide_eq_true h
      have hgt : q2 < q := by rw [hq2t]; exact test_gt hVv hmod hk0l g1 ht
      have hle : v1 ≤ q * v1 := Nat.le_mul_of_pos_left _ (by omega)
      have hql : q ≤ q * v1 := Nat.le_mul_of_pos_right _ (by omega)
      have hstep : (q - 1) * v1 + (r + v1) = u2 := by
        have : (q - 1) * v1 = q * v1 - v1 := by rw [Nat.sub_mul, Nat.one_mul]
        omega
      refine G.skip ?_
      refine G.block ?_
      refine G.seqR tfine rfl trivial ?_
      rw [predN q (by omega) (by omega)]
      refine G.seqR tfine rfl trivial ?_
      rw [addU r v1 (by omega)]
      refine G.seqR tfine rfl trivial ?_
      refine G.cond rfl (fun h5 => ?_) (fun h5 => ?_)
      · have h5 := of_decide_eq_true h5
        have hb : q2 = q - 1 := by rw [hq2t]; exact break_eq hVv (by omega) hv0l hmod hstep (by omega) (by rw [← hq2t]; omega)
        rw [hb]
        exact G.exit ⟨(), trivial, St.le_of rfl trivial ⟨rfl, rfl, rfl, rfl, rfl, rfl, trivial⟩⟩
      · have h5 := of_decide_eq_false h5
        exact G.skip ⟨(q - 1, r + v1), ⟨hstep, by show r + v1 < _; omega, by show q2 ≤ q - 1; omega⟩, (by show q - 1 < q; omega), St.le_of rfl trivial ⟨rfl, rfl, rfl, rfl, rfl, rfl, rfl, rfl, rfl, trivial⟩⟩
    · have ht : ¬ (4294967296 ≤ q ∨ 4294967296 * r + k0 < q * v0) := of_decide_eq_false h
      have hb : q2 = q := by rw [hq2t]; exact test_eq hVv hVp g1 (by omega) (by rw [← hq2t]; exact g3)
      rw [hb]
      exact G.exit ⟨(), trivial, St.le_of rfl trivial ⟨rfl, rfl, rfl, rfl, rfl, rfl, trivial⟩⟩
  have hrest2 := rest_lt (u := u2) (d := k0) hVp
  have hmod2 := Nat.mod_lt (u2 * 4294967296 + k0) hVp
  rw [← hq2t] at hrest2
  obtain ⟨f1, f2⟩ := digits_eq hd0 hV hX hqt hu2 hq2t
  have hqtl : qt < 4294967296 := by rw [hqt]; exact digit_lt huV hk1l
  have hq2l : q2 < 4294967296 := by rw [hq2t]; exact digit_lt hmod hk0l
  refine G.seqR tfine rfl ⟨by omega, trivial⟩ ?_
  rw [restN u2 k0 q2 V hrest2.2 (by omega), hrest2.1, shrN _ s hs64, f2]
  have e9 : IntKind.u64.wrap (IntKind.u64.wrap ((qt : Int) * 4294967296) + (q2 : Int)) = (((x * 18446744073709551616 + y) / d : Nat) : Int) := by
    rw [← f1]; simp only [IntKind.wrap_u64]; omega
  rw [e9]
  exact G.ret (endK.ret rfl rfl)
end Go.Proofs.Ytiicemgngccicaa
