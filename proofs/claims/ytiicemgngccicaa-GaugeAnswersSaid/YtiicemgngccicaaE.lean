/- Chapter 02: the total of the program. -/
import Derived.Test.YtiicemgngccicaaD
set_option linter.unusedVariables false
set_option linter.unusedSimpArgs false
namespace Go.Proofs.Ytiicemgngccicaa
open Go.Sx Go.RowKit
def SQ (l : List Int) (b rule : Int) : Int := (l.map fun n => rndQ n b rule).sum
def SR (l : List Int) (b rule : Int) : Int := (l.map fun n => rndR n b rule).sum
def total3 (l : List Int) (b rule : Int) : Int × Int × Int := if (!isB rule) = true then (0, 0, 1) else if decide ((l.length : Int) > 64) = true then (0, 0, 8) else if (!divB b || l.any badB) = true then (0, 0, 2) else (SQ l b rule, SR l b rule, 0)
theorem sum_take (f : Int → Int) (l : List Int) (k : Nat) (h : k < l.length) : ((l.take (k + 1)).map f).sum = ((l.take k).map f).sum + f (l.getD k 0) := by
  rw [List.take_succ_eq_append_getElem h, List.map_append, List.sum_append]
  simp [List.getD_eq_getElem?_getD, List.getElem?_eq_getElem h]
theorem sum_bound (f : Int → Int) (B : Int) (l : List Int) (hf : ∀ x ∈ l, -B ≤ f x ∧ f x ≤ B) : -(l.length * B) ≤ (l.map f).sum ∧ (l.map f).sum ≤ l.length * B := by
  induction l with
  | nil => simp
  | cons a r ih =>
    have h1 := hf a (by simp)
    have h2 := ih fun x hx => hf x (by simp [hx])
    simp only [List.map_cons, List.sum_cons, List.length_cons]
    have : ((r.length + 1 : Nat) : Int) * B = r.length * B + B := by rw [Int.natCast_add]; simp [Int.add_mul]
    omega
theorem rnd_bound {a b rule : Int} (ha : -M ≤ a ∧ a ≤ M) (hb : 1 ≤ b ∧ b ≤ M) : (-(M + 1) ≤ rndQ a b rule ∧ rndQ a b rule ≤ M + 1) ∧ (-(M + 1) ≤ rndR a b rule ∧ rndR a b rule ≤ M + 1) := by
  have h0 := Int.emod_nonneg a (show b ≠ 0 by omega)
  have h1 := Int.emod_lt_of_pos a (show 0 < b by omega)
  have h2 := div_bound ha hb.1
  unfold rndQ rndR
  split <;> (unfold M at *; omega)
theorem bad_false {l : List Int} (h : l.any badB = false) : ∀ x ∈ l, 0 ≤ x ∧ x ≤ M := by
  intro x hx
  have := List.any_eq_false.1 h x hx
  simp [badB] at this
  unfold M
  omega
theorem SatM.var {E : Env} {ρ : Val} {m : Mem} {w : World} (h : SatM E ρ m w) {x : Nat} {ty : TypeId} {cs : List Value} (hx : m x = some (.var ty (cs.map .k))) : (ρ x).2 = 0 ∧ w.heap[(ρ x).1]? = some (.cells cs.toArray ty (0, 0)) := by
  have := h.ok x _ hx
  exact ⟨this.1, by rw [this.2.2.1, map_conc_k]⟩
end Go.Proofs.Ytiicemgngccicaa
