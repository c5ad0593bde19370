/- Chapter 05: the bounds. -/
import Derived.Test.YtiicemgngccicaaThB
set_option linter.unusedVariables false
set_option linter.unusedSimpArgs false
set_option maxRecDepth 8000
set_option maxHeartbeats 1000000
namespace Go.Proofs.Ytiicemgngccicaa
open Go.Sx Go.RowKit
theorem brs2 {E : Env} {ρ : Val} {m : Mem} {w : World} (hs : SatM E ρ m w) {x y : Nat} {tx ty : TypeId} {cx cy : List Value} (hx : m x = some (.var tx (cx.map .k))) (hy : m y = some (.var ty (cy.map .k))) (hxy : x ≠ y) :
    Brs w [⟨1000, (ρ x).1, tx, cx⟩, ⟨1001, (ρ y).1, ty, cy⟩] := by
  have h9 := SatM.var hs hx
  have h10 := SatM.var hs hy
  have hne : (ρ x).1 ≠ (ρ y).1 := hs.ne x y _ _ hx hy trivial trivial hxy
  refine ⟨?_, ?_, ?_, ?_⟩
  · simp
  · simp
  · simp [hne, hne.symm]
  · simp [h9.2, h10.2]
def worse (a b : Int) : Int := if b > a then b else a
theorem end_any (n t by' rise worst : Int) (g1 g2 : Nat) (w : World) (h : Brs w [⟨1000, g1, 3, [I rise]⟩, ⟨1001, g2, 31, [I worst]⟩]) :
    Calls Try.prog 59 #[I n, I t, I by', .pointer (some ⟨g1, 0, none⟩), .pointer (some ⟨g2, 0, none⟩)] w fun e w' => e = .returned (I (thermal_To20 n rise t by').1) ∧ Fr w [g1, g2] w' ∧
      ∀ b ∈ ([⟨1000, 3, [I rise]⟩, ⟨1001, 31, [I (worse worst (thermal_To20 n rise t by').2)]⟩] : List Tn), ∀ g, (b.x, g) ∈ [(1000, g1), (1001, g2)] → w'.heap[g]? = some (.cells b.cs.toArray b.ty (0, 0)) := by
  refine enterBor tfine [⟨1000, 3, [I rise]⟩, ⟨1001, 31, [I (worse worst (thermal_To20 n rise t by').2)]⟩] Try.func59 rfl 23 Try.ntmps59 [.c (.k (I n)), .c (.k (I t)), .c (.k (I by')), .c (.ptr 1000 0 0 0), .c (.ptr 1001 0 0 0)] _ h rfl rfl ⟨trivial, trivial, trivial, ⟨_, .head _, rfl⟩, ⟨_, .tail _ (.head _), rfl⟩, trivial⟩ ?_
  refine G.seqR tfine rfl trivial ?_
  refine G.seqC tfine rfl trivial ?_
  refine GO.callPlain rfl rfl rfl rfl (fun args w => Try.call60 args w) (fun ρ w hm _ => thermal_To20_any n rise t by' w) ?_
  refine GO.fin tfine rfl trivial ?_
  refine G.seqR tfine rfl trivial ?_
  refine G.seqR tfine rfl trivial ?_
  exact G.ret ⟨.inl rfl, rfl, rfl, rfl, trivial⟩
def btw3 (a b s t rise : Int) : Int × Int × Int := if (decide (a > b) || decide (s > t)) = true then (0, 0, 1) else if ((((!(thermal_rises rise)) || (!(thermal_heat s))) || (!(thermal_heat t))) || (!(thermal_amount a)) || (!(thermal_amount b))) = true then (0, 0, 2)
  else if (worse (worse 0 (thermal_To20 a rise t 1).2) (thermal_To20 b rise s 2).2 != 0) = true then (0, 0, 15) else ((thermal_To20 a rise t 1).1, (thermal_To20 b rise s 2).1, 0)
theorem between_any (a b s t rise : Int) (w : World) : Calls Try.prog 36 #[.agg #[I a, I b], .agg #[I s, I t], I rise] w fun e w' => e = .returned (.tuple #[.agg #[I (btw3 a b s t rise).1, I (btw3 a b s t rise).2.1], I (btw3 a b s t rise).2.2]) ∧ Below w.heap.size w w' := by
  refine enterPlain tfine Try.func36 rfl 70 Try.ntmps36 [.agg [.k (I a), .k (I b)], .agg [.k (I s), .k (I t)], .c (.k (I rise))] [] rfl rfl trivial ⟨⟨trivial, trivial, trivial⟩, ⟨trivial, trivial, trivial⟩, trivial, trivial⟩ ?_
  refine G.seqR tfine rfl trivial ?_
  refine G.seq (G.seqR tfine rfl ?_ ?_)
  · simp [AllP, condB]
  refine G.cond rfl (fun h1 => ?_) (fun h1 => ?_)
  · refine G.seqR tfine rfl trivial ?_
    refine G.ret (endK.ret rfl ?_)
    rw [btw3, h1]; rfl
  refine G.skip ?_
  refine G.seq (G.seqC tfine rfl trivial ?_)
  refine GO.callPlain rfl rfl rfl rfl (fun args w => Try.call56 args w) (fun ρ w hm _ => thermal_rises_any _ w) ?_
  refine GO.more tfine rfl ?_ ?_
  · simp [AllP, condB]
  refine GO.callGuard (.bool (thermal_heat s)) rfl rfl rfl (by first | exact trivial | exact ⟨id, trivial⟩) rfl rfl (fun args w => Try.call57 args w) rfl (fun _ m' hle ρ w hs hok => thermal_heat_any _ w) ?_
  refine GO.more tfine rfl ?_ ?_
  · simp [AllP, condB]
  refine GO.callGuard (.bool (thermal_heat t)) rfl rfl rfl (by first | exact trivial | exact ⟨id, trivial⟩) rfl rfl (fun args w => Try.call57 args w) rfl (fun _ m' hle ρ w hs hok => thermal_heat_any _ w) ?_
  refine GO.more tfine rfl ?_ ?_
  · simp [AllP, condB]
  refine GO.callGuard (.bool (thermal_amount a)) rfl rfl rfl (by first | exact trivial | exact ⟨id, trivial⟩) rfl rfl (fun args w => Try.call58 args w) rfl (fun _ m' hle ρ w hs hok => thermal_amount_any _ w) ?_
  refine GO.more tfine rfl ?_ ?_
  · simp [AllP, condB]
  refine GO.callGuard (.bool (thermal_amount b)) rfl rfl rfl (by first | exact trivial | exact ⟨id, trivial⟩) rfl rfl (fun args w => Try.call58 args w) rfl (fun _ m' hle ρ w hs hok => thermal_amount_any _ w) ?_
  refine GO.fin tfine rfl ?_ ?_
  · simp [AllP, condB]
  refine G.cond rfl (fun h2 => ?_) (fun h2 => ?_)
  · refine G.seqR tfine rfl trivial ?_
    refine G.ret (endK.ret rfl ?_)
    rw [btw3, h1, h2]; rfl
  refine G.skip ?_
  refine G.seqR tfine rfl trivial ?_
  refine G.seqR tfine rfl trivial ?_
  refine G.seqDraw hmix [0, 0, 2, 0, 8, 31, 0, 0, 128, 0, 512, 2047, 4095, 0, 16383] [(5, 5), (5, 8), (11, 5), (11, 8), (14, 10)] rfl rfl rfl ?_
  refine GD.more tfine 0 rfl rfl trivial ?_
  refine GD.callTurn (v := I (thermal_To20 a rise t 1).1) [⟨5, 3, [I rise]⟩, ⟨8, 31, [I (worse 0 (thermal_To20 a rise t 1).2)]⟩] 5 rfl rfl rfl rfl rfl rfl (fun args w => Try.call59 args w) ?_ ?_ ?_
  · intro b hb
    simp only [List.mem_cons, List.not_mem_nil, or_false] at hb
    rcases hb with rfl | rfl <;> exact ⟨_, rfl⟩
  · intro m hle ρ w hs _
    have h5 : m 5 = some (.var 3 ([I rise].map .k)) := LeM.at hle rfl
    have h8 : m 8 = some (.var 31 ([I 0].map .k)) := LeM.at hle rfl
    have := end_any a t 1 rise 0 (ρ 5).1 (ρ 8).1 w (brs2 hs h5 h8 (by decide))
    have e : ([AV.c (.k (I a)), .c (.k (I t)), .c (.k (I 1))].map (AV.conc ρ) ++ [Cap.own 5 0, .own 8 0].map (Cap.conc ρ)).toArray = #[I a, I t, I 1, .pointer (some ⟨(ρ 5).1, 0, none⟩), .pointer (some ⟨(ρ 8).1, 0, none⟩)] := by
      simp [AV.conc, AC.conc, Cap.conc, (SatM.var hs h5).1, (SatM.var hs h8).1]
    refine e ▸ this.mono ?_
    rintro e w' ⟨rfl, hf, hn⟩
    refine ⟨rfl, hf, fun t ht => ?_⟩
    simp only [List.mem_cons, List.not_mem_nil, or_false] at ht
    rcases ht with rfl | rfl
    · exact hn _ (.head _) (ρ 5).1 (.head _)
    · exact hn _ (.tail _ (.head _)) (ρ 8).1 (.tail _ (.head _))
  refine GD.more tfine 6 rfl rfl trivial ?_
  refine GD.callTurn (v := I (thermal_To20 b rise s 2).1) [⟨5, 3, [I rise]⟩, ⟨8, 31, [I (worse (worse 0 (thermal_To20 a rise t 1).2) (thermal_To20 b rise s 2).2)]⟩] 11 rfl rfl rfl rfl rfl rfl (fun args w => Try.call59 args w) ?_ ?_ ?_
  · intro b hb
    simp only [List.mem_cons, List.not_mem_nil, or_false] at hb
    rcases hb with rfl | rfl <;> exact ⟨_, rfl⟩
  · intro m hle ρ w hs _
    have h5 : m 5 = some (.var 3 ([I rise].map .k)) := LeM.at hle rfl
    have h8 : m 8 = some (.var 31 ([I (worse 0 (thermal_To20 a rise t 1).2)].map .k)) := LeM.at hle rfl
    have := end_any b s 2 rise (worse 0 (thermal_To20 a rise t 1).2) (ρ 5).1 (ρ 8).1 w (brs2 hs h5 h8 (by decide))
    have e : ([AV.c (.k (I b)), .c (.k (I s)), .c (.k (I 2))].map (AV.conc ρ) ++ [Cap.own 5 0, .own 8 0].map (Cap.conc ρ)).toArray = #[I b, I s, I 2, .pointer (some ⟨(ρ 5).1, 0, none⟩), .pointer (some ⟨(ρ 8).1, 0, none⟩)] := by
      simp [AV.conc, AC.conc, Cap.conc, (SatM.var hs h5).1, (SatM.var hs h8).1]
    refine e ▸ this.mono ?_
    rintro e w' ⟨rfl, hf, hn⟩
    refine ⟨rfl, hf, fun t ht => ?_⟩
    simp only [List.mem_cons, List.not_mem_nil, or_false] at ht
    rcases ht with rfl | rfl
    · exact hn _ (.head _) (ρ 5).1 (.head _)
    · exact hn _ (.tail _ (.head _)) (ρ 8).1 (.tail _ (.head _))
  refine GD.fin tfine 12 rfl rfl trivial ?_
  refine G.seq (G.seqR tfine rfl trivial ?_)
  refine G.cond rfl (fun h3 => ?_) (fun h3 => ?_)
  · refine G.seqR tfine rfl trivial ?_
    refine G.ret (endK.ret rfl ?_)
    rw [btw3, h1, h2, h3]; rfl
  refine G.skip ?_
  refine G.seqR tfine rfl trivial ?_
  refine G.ret (endK.ret rfl ?_)
  rw [btw3, h1, h2, h3]; rfl
end Go.Proofs.Ytiicemgngccicaa
