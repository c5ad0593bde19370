/- Chapter 15: what reports say together, and their totals. -/
import Derived.Test.YtiicemgngccicaaGaF
set_option linter.unusedVariables false
set_option linter.unusedSimpArgs false
set_option maxRecDepth 8000
set_option maxHeartbeats 1000000
namespace Go.Proofs.Ytiicemgngccicaa
open Go.Sx Go.RowKit
def mis (l : List Rep) (r : Rep) : Bool := (r.s != (l.getD 0 rep0).s) || (r.d != (l.getD 0 rep0).d)
theorem mism_any (g : Nat) (A : Option Addr) (c : Nat) (l : List Rep) (r : Rep) (w : World) (hg : w.heap[g]? = some (.cells #[.slice A l.length c] 47 (0, 0))) (hl : RdRow w A l.length 8 (elR l)) (hap : ∀ a, A = some a → a.block ≠ g) (h0 : 0 < l.length) :
    Calls Try.prog 43 #[Rep.v r, .pointer (some ⟨g, 0, none⟩)] w fun e w' => e = .returned (.bool (mis l r)) ∧ Below w.heap.size w w' := by
  refine enterCap tfine (g := g) 47 [.inp 1000 A l.length c] Try.func43 rfl 24 Try.ntmps43 [.agg [.k (I r.d), .k (I r.p), .k (I r.h), .k (I r.s), .k (I r.vl), .k (I r.vh), .k (I r.al), .k (I r.ah)], .c (.ptr 1900 0 0 0)] [⟨1000, A, 8, l.length, elR l⟩] ⟨(by show 1000 ≠ 1900; decide), fun _ => hap, trivial⟩ hg rfl rfl ⟨hl, trivial⟩ ⟨.inl ⟨rfl, rfl, rfl⟩, trivial⟩
    ⟨⟨trivial, trivial, trivial, trivial, trivial, trivial, trivial, trivial, trivial⟩, rfl, trivial⟩ ?_
  refine G.seqR tfine rfl trivial ?_
  refine G.seqD tfine hmix [0, 1, 3, 0, 8, 24, 56, 120, 255, 511, 1023, 2047, 4095, 1023, 9215, 25599, 58367, 123903, 262143, 524287, 1048575] [] rfl rfl rfl rfl ?_ ?_
  · simp [AllP, condB]; omega
  exact G.ret (endCap.ret rfl rfl rfl)
def mV (b : Int × Int) (r : Rep) : Int × Int := meet b (vol r)
def mA (b : Int × Int) (r : Rep) : Int × Int := meet b (alc r)
def aV (b : Int × Int) (r : Rep) : Int × Int := addW b (vol r)
def aA (b : Int × Int) (r : Rep) : Int × Int := addW b (alc r)
def tog5 (l : List Rep) : Int × Int × Int × Int × Int :=
  if ((l.length : Int) == 0) = true then (0, 0, 0, 0, 9) else if decide ((l.length : Int) > 64) = true then (0, 0, 0, 0, 8) else if (!(l.all okR)) = true then (0, 0, 0, 0, 1) else if l.any (mis l) = true then (0, 0, 0, 0, 10)
  else if decide ((l.foldl mV (vol (l.getD 0 rep0))).1 > (l.foldl mV (vol (l.getD 0 rep0))).2) = true then (0, 0, 0, 0, 18)
  else ((l.foldl mV (vol (l.getD 0 rep0))).1, (l.foldl mV (vol (l.getD 0 rep0))).2, (l.foldl mA (alc (l.getD 0 rep0))).1, (l.foldl mA (alc (l.getD 0 rep0))).2, 0)
def B5 (x : Int × Int × Int × Int × Int) : Value := .tuple #[.agg #[I x.1, I x.2.1], .agg #[I x.2.2.1, I x.2.2.2.1], I x.2.2.2.2]
theorem together_any (A : Option Addr) (c : Nat) (l : List Rep) (w : World) (hl : RdRow w A l.length 8 (elR l)) (hm : l.length ≤ 4611686018427387904) :
    Calls Try.prog 20 #[.slice A l.length c] w fun e w' => e = .returned (B5 (tog5 l)) ∧ Below w.heap.size w w' := by
  refine enterPlain tfine Try.func20 rfl 55 Try.ntmps20 [.c (.inp 1000 A l.length c)] [⟨1000, A, 8, l.length, elR l⟩] rfl rfl ⟨hl, trivial⟩ ⟨.inl ⟨rfl, rfl, rfl⟩, trivial⟩ ?_
  refine G.seqR tfine rfl trivial ?_
  refine G.seq (G.block ?_)
  refine G.seqR tfine rfl trivial ?_
  refine G.cond rfl (fun h1 => ?_) (fun h1 => ?_)
  · refine G.seqR tfine rfl trivial ?_
    refine G.ret (endK.ret rfl ?_)
    rw [tog5, if_pos h1]; rfl
  refine G.seqR tfine rfl trivial ?_
  refine G.cond rfl (fun h2 => ?_) (fun h2 => ?_)
  · refine G.seqR tfine rfl trivial ?_
    refine G.ret (endK.ret rfl ?_)
    rw [tog5, if_neg (fne h1), if_pos h2]; rfl
  refine G.seqC tfine rfl trivial ?_
  refine GO.callPlain (v := .bool (l.all okR)) rfl rfl rfl rfl (fun args w => Try.call42 args w) (fun ρ w hs hok => rights_any A c l w (hs.row (cap := c) rfl (hok _ List.mem_cons_self)) hm) ?_
  refine GO.fin tfine rfl trivial ?_
  refine G.cond rfl (fun h3 => ?_) (fun h3 => ?_)
  · refine G.seqR tfine rfl trivial ?_
    refine G.ret (endK.ret rfl ?_)
    rw [tog5, if_neg (fne h1), if_neg (fne h2), if_pos h3]; rfl
  have h0 : 0 < l.length := by
    have : l.length ≠ 0 := by simpa using h1
    omega
  refine G.seqC tfine rfl trivial ?_
  refine GO.callPlain (v := .bool (l.any (mis l))) rfl rfl rfl rfl (fun args w => Try.call25 args w) (fun ρ w1 hs hok => ?_) ?_
  · have hk := hs.ok 1 _ rfl
    have hg : w1.heap[(ρ 1).1]? = some (.cells #[.slice A l.length c] 47 (0, 0)) := hk.2.2.1
    have hi : AC.ok ρ _ (.inp 1000 A l.length c) := hok _ List.mem_cons_self
    have hrow : RdRow w1 A l.length 8 (elR l) := hs.row (cap := c) rfl hi
    have hne : ∀ a, A = some a → a.block ≠ (ρ 1).1 := by
      intro a ha
      have h5 := hi.2 h0
      rw [ha] at h5
      injection h5 with h5
      rw [h5]
      exact (hs.ne 1 1000 _ _ rfl rfl trivial h0 (by decide)).symm
    have := containsFuncR_any 43 (mis l) (.pointer (some ⟨(ρ 1).1, 0, none⟩)) (fun args w => Try.call43 args w) A c l w1
      (fun w2 hb v hv => mism_any (ρ 1).1 A c l v w2 ((hb.block _ (Array.getElem?_eq_some_iff.1 hg).1).trans hg) (hrow.below hb) hne h0) hrow hm
    rw [firstI_any, any_getDg] at this
    show Calls Try.prog 25 #[.slice A l.length c, .func (.func 43) #[] #[.pointer (some ⟨(ρ 1).1, (ρ 1).2 + 0, none⟩)]] w1 _
    rw [hk.1]
    exact this
  refine GO.fin tfine rfl trivial ?_
  refine G.cond rfl (fun h4 => ?_) (fun h4 => ?_)
  · refine G.seqR tfine rfl trivial ?_
    refine G.ret (endK.ret rfl ?_)
    rw [tog5, if_neg (fne h1), if_neg (fne h2), if_neg (fne h3), if_pos h4]; rfl
  refine G.skip ?_
  refine G.seqR tfine rfl trivial ?_
  refine G.seqDraw hmix [0, 0, 2, 6, 14, 0, 63, 0, 255] [(8, 6)] rfl rfl rfl ?_
  refine GD.more tfine 0 rfl rfl ?_ ?_
  · simp [AllP, condB]; omega
  refine GD.call (v := .agg #[I (l.foldl mV (vol (l.getD 0 rep0))).1, I (l.foldl mV (vol (l.getD 0 rep0))).2]) 6 rfl rfl rfl rfl rfl (fun args w => Try.call45 args w) (fun m hle ρ w1 hs hok => ?_) ?_
  · have hk := hs.ok 5 _ (LeM.at hle rfl)
    have hg : w1.heap[(ρ 5).1]? = some (.cells #[.func (.func 44) #[] #[]] 68 (0, 0)) := hk.2.2.1
    have hrow : RdRow w1 A l.length 8 (elR l) := hs.row (cap := c) (LeM.at hle rfl) (hok _ List.mem_cons_self)
    have := foldP_any 46 (.pointer (some ⟨(ρ 5).1, 0, none⟩)) mV (fun args w => Try.call46 args w) A c l (vol (l.getD 0 rep0)) w1
      (fun w2 hb b r => meetV_any (ρ 5).1 b r w2 ((hb.block _ (Array.getElem?_eq_some_iff.1 hg).1).trans hg)) hrow hm
    show Calls Try.prog 45 #[.slice A l.length c, .agg #[I (l.getD 0 rep0).vl, I (l.getD 0 rep0).vh], .func (.func 46) #[] #[.pointer (some ⟨(ρ 5).1, (ρ 5).2 + 0, none⟩)]] w1 _
    rw [hk.1]
    exact this
  refine GD.fin tfine 7 rfl rfl ?_ ?_
  · simp [AllP, condB]
  refine G.seqDraw hmix [0, 0, 2, 6, 14, 0, 63, 0, 255] [(8, 7)] rfl rfl rfl ?_
  refine GD.more tfine 0 rfl rfl ?_ ?_
  · simp [AllP, condB]; omega
  refine GD.call (v := .agg #[I (l.foldl mA (alc (l.getD 0 rep0))).1, I (l.foldl mA (alc (l.getD 0 rep0))).2]) 6 rfl rfl rfl rfl rfl (fun args w => Try.call45 args w) (fun m hle ρ w1 hs hok => ?_) ?_
  · have hk := hs.ok 5 _ (LeM.at hle rfl)
    have hg : w1.heap[(ρ 5).1]? = some (.cells #[.func (.func 44) #[] #[]] 68 (0, 0)) := hk.2.2.1
    have hrow : RdRow w1 A l.length 8 (elR l) := hs.row (cap := c) (LeM.at hle rfl) (hok _ List.mem_cons_self)
    have := foldP_any 47 (.pointer (some ⟨(ρ 5).1, 0, none⟩)) mA (fun args w => Try.call47 args w) A c l (alc (l.getD 0 rep0)) w1
      (fun w2 hb b r => meetA_any (ρ 5).1 b r w2 ((hb.block _ (Array.getElem?_eq_some_iff.1 hg).1).trans hg)) hrow hm
    show Calls Try.prog 45 #[.slice A l.length c, .agg #[I (l.getD 0 rep0).al, I (l.getD 0 rep0).ah], .func (.func 47) #[] #[.pointer (some ⟨(ρ 5).1, (ρ 5).2 + 0, none⟩)]] w1 _
    rw [hk.1]
    exact this
  refine GD.fin tfine 7 rfl rfl ?_ ?_
  · simp [AllP, condB]
  refine G.seq (G.seqR tfine rfl trivial ?_)
  refine G.cond rfl (fun h5 => ?_) (fun h5 => ?_)
  · refine G.seqR tfine rfl trivial ?_
    refine G.ret (endK.ret rfl ?_)
    rw [tog5, if_neg (fne h1), if_neg (fne h2), if_neg (fne h3), if_neg (fne h4), if_pos h5]; rfl
  refine G.skip ?_
  refine G.seqD tfine hmix [0, 0, 1, 7, 15] [(2, 2), (3, 3)] rfl rfl rfl rfl trivial ?_
  refine G.ret (endK.ret rfl ?_)
  rw [tog5, if_neg (fne h1), if_neg (fne h2), if_neg (fne h3), if_neg (fne h4), if_neg (fne h5)]; rfl
def tot5 (l : List Rep) : Int × Int × Int × Int × Int :=
  if decide ((l.length : Int) > 64) = true then (0, 0, 0, 0, 8) else if (!(l.all okR)) = true then (0, 0, 0, 0, 1)
  else ((l.foldl aV (0, 0)).1, (l.foldl aV (0, 0)).2, (l.foldl aA (0, 0)).1, (l.foldl aA (0, 0)).2, 0)
theorem total_any (A : Option Addr) (c : Nat) (l : List Rep) (w : World) (hl : RdRow w A l.length 8 (elR l)) (hm : l.length ≤ 4611686018427387904) :
    Calls Try.prog 23 #[.slice A l.length c] w fun e w' => e = .returned (B5 (tot5 l)) ∧ Below w.heap.size w w' := by
  refine enterPlain tfine Try.func23 rfl 28 Try.ntmps23 [.c (.inp 1000 A l.length c)] [⟨1000, A, 8, l.length, elR l⟩] rfl rfl ⟨hl, trivial⟩ ⟨.inl ⟨rfl, rfl, rfl⟩, trivial⟩ ?_
  refine G.seqR tfine rfl trivial ?_
  refine G.seq (G.seqR tfine rfl trivial ?_)
  refine G.cond rfl (fun h2 => ?_) (fun h2 => ?_)
  · refine G.seqR tfine rfl trivial ?_
    refine G.ret (endK.ret rfl ?_)
    rw [tot5, if_pos h2]; rfl
  refine G.skip ?_
  refine G.seq (G.seqC tfine rfl trivial ?_)
  refine GO.callPlain (v := .bool (l.all okR)) rfl rfl rfl rfl (fun args w => Try.call42 args w) (fun ρ w hs hok => rights_any A c l w (hs.row (cap := c) rfl (hok _ List.mem_cons_self)) hm) ?_
  refine GO.fin tfine rfl trivial ?_
  refine G.cond rfl (fun h3 => ?_) (fun h3 => ?_)
  · refine G.seqR tfine rfl trivial ?_
    refine G.ret (endK.ret rfl ?_)
    rw [tot5, if_neg (fne h2), if_pos h3]; rfl
  refine G.skip ?_
  refine G.seqR tfine rfl trivial ?_
  refine G.seqC tfine rfl trivial ?_
  refine GO.callPlain (v := .agg #[I (l.foldl aV (0, 0)).1, I (l.foldl aV (0, 0)).2]) rfl rfl rfl rfl (fun args w => Try.call45 args w) (fun ρ w1 hs hok => ?_) ?_
  · have hk := hs.ok 5 _ rfl
    have hg : w1.heap[(ρ 5).1]? = some (.cells #[.func (.func 48) #[] #[]] 68 (0, 0)) := hk.2.2.1
    have hrow : RdRow w1 A l.length 8 (elR l) := hs.row (cap := c) rfl (hok _ List.mem_cons_self)
    have := foldP_any 49 (.pointer (some ⟨(ρ 5).1, 0, none⟩)) aV (fun args w => Try.call49 args w) A c l (0, 0) w1
      (fun w2 hb b r => addV_any (ρ 5).1 b r w2 ((hb.block _ (Array.getElem?_eq_some_iff.1 hg).1).trans hg)) hrow hm
    show Calls Try.prog 45 #[.slice A l.length c, .agg #[I 0, I 0], .func (.func 49) #[] #[.pointer (some ⟨(ρ 5).1, (ρ 5).2 + 0, none⟩)]] w1 _
    rw [hk.1]
    exact this
  refine GO.fin tfine rfl trivial ?_
  refine G.seqC tfine rfl trivial ?_
  refine GO.callPlain (v := .agg #[I (l.foldl aA (0, 0)).1, I (l.foldl aA (0, 0)).2]) rfl rfl rfl rfl (fun args w => Try.call45 args w) (fun ρ w1 hs hok => ?_) ?_
  · have hk := hs.ok 5 _ rfl
    have hg : w1.heap[(ρ 5).1]? = some (.cells #[.func (.func 48) #[] #[]] 68 (0, 0)) := hk.2.2.1
    have hrow : RdRow w1 A l.length 8 (elR l) := hs.row (cap := c) rfl (hok _ List.mem_cons_self)
    have := foldP_any 50 (.pointer (some ⟨(ρ 5).1, 0, none⟩)) aA (fun args w => Try.call50 args w) A c l (0, 0) w1
      (fun w2 hb b r => addA_any (ρ 5).1 b r w2 ((hb.block _ (Array.getElem?_eq_some_iff.1 hg).1).trans hg)) hrow hm
    show Calls Try.prog 45 #[.slice A l.length c, .agg #[I 0, I 0], .func (.func 50) #[] #[.pointer (some ⟨(ρ 5).1, (ρ 5).2 + 0, none⟩)]] w1 _
    rw [hk.1]
    exact this
  refine GO.fin tfine rfl trivial ?_
  refine G.seqD tfine hmix [0, 0, 1, 7, 15] [(2, 2), (3, 3)] rfl rfl rfl rfl trivial ?_
  refine G.ret (endK.ret rfl ?_)
  rw [tot5, if_neg (fne h2), if_neg (fne h3)]; rfl
end Go.Proofs.Ytiicemgngccicaa
