/- The symbolic executor, part Y: functions that answer a struct whose first part is a row, and calls of them. Generic over P. -/
import Derived.Test.YtiicemgngccicaaSxX
set_option linter.unusedVariables false
set_option linter.unusedSimpArgs false
namespace Go.Sx
open Go.RowKit
section
variable {P : Program} {E : Env} {K : Exit → St → Prop} {T : Tab}
def tabAt (m : Mem) (n sz : Nat) (el : Nat → List Value) (post : List Value) : TV → Prop
  | .v (.agg (a :: r)) => r = post.map .k ∧ rowAt m n sz el (.v (.c a))
  | _ => False
theorem tabAt_v {m : Mem} {n sz : Nat} {el : Nat → List Value} {post : List Value} {tv : TV} (h : tabAt m n sz el post tv) : ∃ av, tv = .v av := by
  unfold tabAt at h
  split at h
  · exact ⟨_, rfl⟩
  · cases h
def endTab (T : Tab) (fn : Func) (n sz : Nat) (el : Nat → List Value) (post : List Value) : Exit → St → Prop := fun e st => (e = .ret ∨ e = .normal) ∧ ∃ r, fn.results.toList = [r] ∧ tabAt st.m n sz el post (resOne T st r)
theorem enterTab (hT : Tab.fine P T) {f : FuncId} {fn : Func} {c : Code} {args : Array Value} {w : World} (n sz : Nat) (el : Nat → List Value) (post : List Value) (hf : P.funcs[f]? = some fn) (hb : fn.body = some c) (N : Nat) (hN : fn.ntmps = N) (avs : List AV) (l : List Inp)
    (hargs : args = (avs.map (AV.conc (inpsV l))).toArray) (hl : Nat.ble avs.length N = true) (hr : allRd w l) (ha : allInps l avs)
    (h : G P ⟨w, [], N⟩ (endTab T fn n sz el post) c ⟨argsT avs, lkM (inpsM l)⟩) : Calls P f args w fun e w' => ∃ A c, e = .returned (.agg (Value.slice A n c :: post).toArray) ∧ RdNew w w' A n sz el ∧ Below w.heap.size w w' := by
  subst hN
  refine enter (E := ⟨w, [], fn.ntmps⟩) hf hb (inpsV l) (Sat.init hr ha hargs (Nat.le_of_ble_eq_true hl)) (h.mono fun e st hk => ⟨hk.1, fun ρ a w' hs => ?_⟩)
  obtain ⟨r, h1, h2⟩ := hk.2
  obtain ⟨av, hav⟩ := tabAt_v h2
  obtain ⟨h3, h4⟩ := resOne_run hT hs hav
  rw [hav] at h2
  unfold tabAt at h2
  split at h2
  · rename_i a r' e1
    injection e1 with e1
    subst e1
    obtain ⟨rfl, h5⟩ := h2
    obtain ⟨A, c, h6, h7⟩ := rowAt_new hs.mem (tv := .v (.c a)) (v := a.conc ρ) ⟨h4 a (by simp), rfl⟩ h5
    refine ⟨_, results_one h1 h3, A, c, ?_, h7, hs.mem.fr.toBelow⟩
    congr 1
    show Value.agg ((a :: post.map AC.k).map (AC.conc ρ)).toArray = _
    rw [List.map_cons, map_conc_k, h6]
  · cases h2
theorem endTab.ret {fn : Func} {n sz : Nat} {el : Nat → List Value} {post : List Value} {st : St} {r : ResultVar} (h : fn.results.toList = [r]) (hr : tabAt st.m n sz el post (resOne T st r)) : endTab T fn n sz el post .ret st := ⟨.inl rfl, r, h, hr⟩
theorem GO.callTab {ops : Array Oper} {rest : List Oper} {o : Oper} {c : Call} {f : FuncId} {avs : List AV} {caps : List Cap} {t : Nat → TV} {m : Mem} {x n sz : Nat} {el : Nat → List Value} (post : List Value) (hd : o.dst = some x) (hx : m x = none) (hxb : Nat.blt x 1000 = true) (hdN : Nat.blt x E.N = true)
    (hg : o.guard = none) (hop : o.op = .call c) (he : callE t c = .mk f avs caps)
    (hcf : ∀ (args : Array Value) (w : World), (callFunc f args).run P w = .ok (.enter f args) w)
    (hc : ∀ ρ w, SatM E ρ m w → (∀ v ∈ avs, v.ok ρ m) → Calls P f (avs.map (AV.conc ρ) ++ caps.map (Cap.conc ρ)).toArray w fun e w' => ∃ A k, e = .returned (.agg (Value.slice A n k :: post).toArray) ∧ RdNew w w' A n sz el ∧ Below w.heap.size w w')
    (k : ∀ A k, GO P E ops K rest ⟨up t x (.v (.agg (.inp x A n k :: post.map .k))), up m x (some (.ro sz n el))⟩) : GO P E ops K (o :: rest) ⟨t, m⟩ := by
  intro ρ a w hs
  refine GO.call hg hop he hcf (fun ρ a w hs hok _ => (hc ρ w hs.mem hok).mono ?_) ρ a w hs
  rintro e w' ⟨A, cp, rfl, hn, hb⟩
  obtain ⟨ρ', h1, h2, h3⟩ := hs.mem.newRo hb (cap := cp) hx (by simpa [Nat.blt_eq] using hxb) hn
  have hmv := hs.move h2 (fun y hy => isSome_up y hy) h1
  refine ⟨_, ρ', _, rfl, ?_, k A cp⟩
  rw [hd]
  refine hmv.put (by simpa [Nat.blt_eq] using hdN) ⟨?_, ?_⟩
  · intro b hb
    cases hb with
    | head => exact h3
    | tail _ hb =>
      obtain ⟨v, _, rfl⟩ := List.mem_map.1 hb
      trivial
  · show Value.agg _ = Value.agg ((AC.inp x A n cp :: post.map AC.k).map (AC.conc ρ')).toArray
    rw [List.map_cons, map_conc_k]
    rfl
end
end Go.Sx
