/- The symbolic executor, part AG: rows of ours that calls make and turn (slices.Clone, slices.Delete), a row's own tail moved down, its rest cleared. Generic over P. -/
import Derived.Test.YtnoejcejkdkaeaaMF3
import Derived.Laws.OwnMore
import Derived.WideKeyPair
import Derived.ChangeOld
import Derived.MapKept
/- Chapter 37: the example of the chapter. -/
set_option linter.unusedVariables false
set_option linter.unusedSimpArgs false
set_option maxRecDepth 8000
set_option maxHeartbeats 1000000
namespace Go.Proofs.Ytnoejcejkdkaeaa
open Go.Sx Go.RowKit Mt
def castI (L : List Nat) : List Int := L.map fun n : Nat => (n : Int)
theorem castI_len (L : List Nat) : (castI L).length = L.length := by simp [castI]
theorem elI_cast (L : List Nat) (i : Nat) : elI (castI L) i = elW L i := by
  simp only [elI, elW, castI, List.getD_eq_getElem?_getD, List.getElem?_map]
  cases L[i]? <;> rfl
theorem elG_eq (L : List Eg) : elG L = elE (castL L) := funext fun i => (elE_cast L i).symm
theorem elW_eq (L : List Nat) : elW L = elI (castI L) := funext fun i => (elI_cast L i).symm
/-- Two lists of numbers are equal. -/
def eqI (a b : List Int) : Bool := ((a.length : Int) == (b.length : Int)) && !((List.range' 0 a.length).any fun k => a.getD k 0 != b.getD k 0)
theorem equal_any (A B : Option Addr) (c d : Nat) (a b : List Int) (w : World) (h1 : RdRow w A a.length 1 (elI a)) (h2 : RdRow w B b.length 1 (elI b)) (m1 : a.length ≤ 1000000) :
    Calls Try.prog 29 #[.slice A a.length c, .slice B b.length d] w fun e w' => e = .returned (.bool (eqI a b)) ∧ Below w.heap.size w w' := by
  refine enterPlain tfine Try.func29 rfl 26 Try.ntmps29 [.c (.inp 1000 A a.length c), .c (.inp 1001 B b.length d)] [⟨1000, A, 1, a.length, elI a⟩, ⟨1001, B, 1, b.length, elI b⟩] rfl rfl ⟨h1, h2, trivial⟩ ⟨.inl ⟨rfl, rfl, rfl⟩, .inr ⟨nx rfl, .inl ⟨rfl, rfl, rfl⟩⟩, trivial⟩ ?_
  refine G.seqR tfine rfl trivial ?_
  refine G.seq ?_
  refine G.seqR tfine rfl trivial ?_
  refine G.cond (b := ((a.length : Int) != (b.length : Int))) rfl (fun h => ?_) (fun h => ?_)
  · refine G.seqR tfine rfl trivial ?_
    refine G.ret (endK.ret rfl ?_)
    have : ((a.length : Int) == (b.length : Int)) = false := by simpa using h
    rw [eqI, this]
    rfl
  have hlen : a.length = b.length := by
    have : ((a.length : Int)) = (b.length : Int) := by simpa using h
    omega
  have hq : eqI a b = !((List.range' 0 a.length).any fun k => a.getD k 0 != b.getD k 0) := by
    rw [eqI, hlen]; simp
  rw [hq]
  refine G.skip ?_
  refine G.seq (G.seqR tfine rfl trivial ?_)
  refine G.block (G.loop (fun k : Nat => St.of [(0, .v (.c (.inp 1000 A a.length c))), (1, .v (.c (.inp 1001 B b.length d))), (12, .v (.c (.k (I a.length)))), (13, .v (.c (.k (I k))))] [(1000, .ro 1 a.length (elI a)), (1001, .ro 1 b.length (elI b))])
    (fun k => k ≤ a.length ∧ (List.range' 0 a.length).any (fun k => a.getD k 0 != b.getD k 0) = (List.range' k (a.length - k)).any (fun k => a.getD k 0 != b.getD k 0)) (fun k => a.length - k) 0 ⟨by omega, rfl⟩ (St.le_of rfl ⟨⟨_, rfl, Blk.le_refl _⟩, ⟨_, rfl, Blk.le_refl _⟩, trivial⟩ ⟨rfl, rfl, rfl, rfl, trivial⟩) ?_)
  rintro k ⟨hk, hfi⟩
  refine G.seqR tfine rfl trivial ?_
  refine G.seq (G.cond rfl (fun h => ?_) (fun h => ?_))
  rotate_left
  · have h := of_decide_eq_false h
    have : k = a.length := by omega
    subst this
    refine G.exit ?_
    refine G.seqR tfine rfl trivial ?_
    refine G.ret (endK.ret rfl ?_)
    rw [hfi, Nat.sub_self]
    rfl
  have h := of_decide_eq_true h
  have hlt : k < a.length := by omega
  rw [any_step hlt] at hfi
  refine G.skip ?_
  refine G.seq (G.block ?_)
  refine G.seqR tfine rfl trivial ?_
  refine G.seqD tfine hmix [0, 0, 3, 7, 0, 0, 48, 112, 255] [] rfl rfl rfl rfl ?_ ?_
  · simp [AllP]
    omega
  rw [Int.toNat_natCast]
  refine G.cond (b := (a.getD k 0 != b.getD k 0)) rfl (fun h2 => ?_) (fun h2 => ?_)
  · refine G.seqR tfine rfl trivial ?_
    refine G.ret (endK.ret rfl ?_)
    rw [hfi, h2]
    rfl
  · rw [h2, Bool.false_or] at hfi
    refine G.skip ?_
    refine G.reg tfine rfl trivial ?_
    rw [IntWalk.i64_in ((k : Int) + 1) (by omega)]
    exact ⟨k + 1, ⟨by omega, hfi⟩, (by show a.length - (k + 1) < a.length - k; omega), St.le_of rfl ⟨⟨_, rfl, Blk.le_refl _⟩, ⟨_, rfl, Blk.le_refl _⟩, trivial⟩ ⟨rfl, rfl, rfl, by simp [up, I], trivial⟩⟩
def exL : List EI := [(0, 0), (1, 0), (2, 0), (2, 1), (2, 2)]
theorem example_any (w : World) : Calls Try.prog 28 #[] w fun e w' => Ans w w' [.c (.r 5 2 (elE exL))] e ∧ Below w.heap.size w w' := by
  refine enterAns tfine _ Try.func28 rfl 7 Try.ntmps28 [] [] rfl rfl trivial trivial ?_
  refine G.seqR tfine rfl trivial ?_
  refine G.seqR tfine rfl trivial ?_
  refine G.ret (endAns.ret ⟨⟨_, rfl, by decide, rfl, rfl, ⟨[I 0, I 0, I 1, I 0, I 2, I 0, I 2, I 1, I 2, I 2], rfl, by decide, fun i hi => ?_⟩⟩, trivial⟩)
  match i, hi with
  | 0, _ => rfl
  | 1, _ => rfl
  | 2, _ => rfl
  | 3, _ => rfl
  | 4, _ => rfl
theorem ex_size : sizeA 3 3 exL = (2, 0) := by decide +kernel
theorem ex_lack : lackA 3 3 exL = ([0, 1], [0], 0) := by decide +kernel
theorem ex_match : matchA 3 3 exL = ([(0, 0), (2, 1)], [2], [0], 0) := by decide +kernel
theorem ex_verify : verifyM 3 3 exL [(0, 0), (2, 1)] [2] [0] = 0 := by decide +kernel
theorem ex_eq1 : eqI [0, 1] [0, 1] = true := by decide +kernel
theorem ex_eq2 : eqI [0] [0] = true := by decide +kernel
theorem awake_any (w : World) : Calls Try.prog 10 #[] w fun e w' => e = .returned (.bool true) ∧ Below w.heap.size w w' := by
  refine enterPlain tfine Try.func10 rfl 67 Try.ntmps10 [] [] rfl rfl trivial trivial ?_
  refine G.seqR tfine rfl trivial ?_
  refine G.seqC tfine rfl trivial ?_
  refine GO.callAns [.c (.r 5 2 (elE exL))] [800] rfl rfl rfl rfl ⟨rfl, rfl, rfl, trivial⟩ (fun args w => Try.call28 args w) (fun ρ w hs hok => example_any w) ?_
  refine GO.callPlain (v := .tuple #[I 2, I 0]) rfl rfl rfl rfl (fun args w => Try.call13 args w) (fun ρ w hs hok => ?_) ?_
  · have := Size_any 3 3 (rowAd ρ 800) (ρ 850).1 exL w (hs.rowR rfl (hok _ (List.mem_cons_of_mem _ (List.mem_cons_of_mem _ List.mem_cons_self))) (Nat.le_refl _)) (by decide)
    rw [ex_size] at this
    exact this
  refine GO.fin tfine rfl trivial ?_
  refine G.seqC tfine rfl trivial ?_
  refine GO.callAns [.c (.r 5 2 (elE exL))] [801] rfl rfl rfl rfl ⟨rfl, rfl, rfl, trivial⟩ (fun args w => Try.call28 args w) (fun ρ w hs hok => example_any w) ?_
  refine GO.callAns [.agg [.r 2 2 (elE [(0, 0), (2, 1)]), .r 1 1 (elI [2]), .r 1 1 (elI [0])], .c (.p (I 0))] [802, 803, 804] rfl rfl rfl rfl ⟨rfl, rfl, rfl, rfl, rfl, rfl, rfl, rfl, rfl, trivial⟩ (fun args w => Try.call11 args w) (fun ρ w hs hok => ?_) ?_
  · have := Match_any 3 3 (rowAd ρ 801) (ρ 851).1 exL w (hs.rowR rfl (hok _ (List.mem_cons_of_mem _ (List.mem_cons_of_mem _ List.mem_cons_self))) (Nat.le_refl _)) (by decide)
    rw [ex_match] at this
    simp only [elG_eq, elW_eq] at this
    exact this
  refine GO.fin tfine rfl trivial ?_
  refine G.seqC tfine rfl trivial ?_
  refine GO.callAns [.c (.r 5 2 (elE exL))] [805] rfl rfl rfl rfl ⟨rfl, rfl, rfl, trivial⟩ (fun args w => Try.call28 args w) (fun ρ w hs hok => example_any w) ?_
  refine GO.callAns [.c (.r 2 1 (elI [0, 1])), .c (.r 1 1 (elI [0])), .c (.p (I 0))] [806, 807] rfl rfl rfl rfl ⟨rfl, rfl, rfl, rfl, rfl, rfl, trivial⟩ (fun args w => Try.call12 args w) (fun ρ w hs hok => ?_) ?_
  · have := Lack_any 3 3 (rowAd ρ 805) (ρ 855).1 exL w (hs.rowR rfl (hok _ (List.mem_cons_of_mem _ (List.mem_cons_of_mem _ List.mem_cons_self))) (Nat.le_refl _)) (by decide)
    rw [ex_lack] at this
    simp only [elW_eq] at this
    exact this
  refine GO.fin tfine rfl trivial ?_
  refine G.seqDraw hmix [0, 1, 3, 7, 15, 31, 63, 127, 255, 511, 511, 2047, 4095, 8191, 16383, 16383, 65535, 131071, 262143, 524287, 524287, 2097151, 4194303, 8388607, 16777215, 33554431, 33554431, 33554431, 234881023, 33554431, 33554431, 2113929215, 4294967295, 8589934591, 17179869183, 34359738367, 68719476735, 68719476735, 274877906943, 68719476735, 1099511627775, 2199023255551, 4398046511103, 8796093022207] [(19, 808), (19, 858), (25, 809), (25, 859)] rfl rfl rfl ?_
  refine GD.more tfine 0 rfl rfl ?_ ?_
  · first | trivial | (simp [AllP, condB]; done) | (simp only [AllP]; and_intros <;> first | trivial | decide | omega) | (simp [AllP, condB]; intros; and_intros <;> first | assumption | omega) | (simp [AllP, condB]; intros; simp_all; done) | (simp [AllP, condB]; intros; simp_all; omega) | (simp [AllP, condB]; omega)
  refine GD.opT tfine 10 rfl rfl rfl rfl (by first | exact trivial | exact ⟨id, trivial⟩ | exact ⟨id, id, trivial⟩ | exact ⟨id, id, id, trivial⟩ | exact ⟨id, id, id, id, trivial⟩) rfl rfl trivial rfl rfl ?_
  refine GD.callGuard (.bool true) 11 rfl rfl rfl rfl (by first | exact trivial | exact ⟨id, trivial⟩ | exact ⟨id, id, trivial⟩ | exact ⟨id, id, id, trivial⟩ | exact ⟨id, id, id, id, trivial⟩) rfl rfl (fun args w => Try.call29 args w) rfl (fun _ m' hle ρ w hs hok => ?_) ?_
  · have := equal_any (rowAd ρ 806) (some ⟨(ρ 34).1, (ρ 34).2 + 0 * 1, none⟩) (ρ 856).1 2 [0, 1] [0, 1] w (hs.rowR (hle.at rfl) (hok _ List.mem_cons_self) (Nat.le_refl _)) (RdRow.congr (hs.rdVar (x := 34) (ty := 3) (vs := [I 0, I 1]) (sz := 1) (hle.at rfl) 0 2 (by decide)) fun i hi => by match i, hi with | 0, _ => rfl | 1, _ => rfl) (by decide)
    rw [ex_eq1] at this
    exact this
  refine GD.more tfine 12 rfl rfl ?_ ?_
  · first | trivial | (simp [AllP, condB]; done) | (simp only [AllP]; and_intros <;> first | trivial | decide | omega) | (simp [AllP, condB]; intros; and_intros <;> first | assumption | omega) | (simp [AllP, condB]; intros; simp_all; done) | (simp [AllP, condB]; intros; simp_all; omega) | (simp [AllP, condB]; omega)
  refine GD.opT tfine 15 rfl rfl rfl rfl (by first | exact trivial | exact ⟨id, trivial⟩ | exact ⟨id, id, trivial⟩ | exact ⟨id, id, id, trivial⟩ | exact ⟨id, id, id, id, trivial⟩) rfl rfl trivial rfl rfl ?_
  refine GD.callGuard (.bool true) 16 rfl rfl rfl rfl (by first | exact trivial | exact ⟨id, trivial⟩ | exact ⟨id, id, trivial⟩ | exact ⟨id, id, id, trivial⟩ | exact ⟨id, id, id, id, trivial⟩) rfl rfl (fun args w => Try.call29 args w) rfl (fun _ m' hle ρ w hs hok => ?_) ?_
  · have := equal_any (rowAd ρ 807) (some ⟨(ρ 39).1, (ρ 39).2 + 0 * 1, none⟩) (ρ 857).1 1 [0] [0] w (hs.rowR (hle.at rfl) (hok _ List.mem_cons_self) (Nat.le_refl _)) (RdRow.congr (hs.rdVar (x := 39) (ty := 3) (vs := [I 0]) (sz := 1) (hle.at rfl) 0 1 (by decide)) fun i hi => by match i, hi with | 0, _ => rfl) (by decide)
    rw [ex_eq2] at this
    exact this
  refine GD.more tfine 17 rfl rfl ?_ ?_
  · first | trivial | (simp [AllP, condB]; done) | (simp only [AllP]; and_intros <;> first | trivial | decide | omega) | (simp [AllP, condB]; intros; and_intros <;> first | assumption | omega) | (simp [AllP, condB]; intros; simp_all; done) | (simp [AllP, condB]; intros; simp_all; omega) | (simp [AllP, condB]; omega)
  refine GD.callAnsT [.c (.r 5 2 (elE exL))] [808] 19 rfl rfl rfl rfl rfl (by first | exact trivial | exact ⟨id, trivial⟩ | exact ⟨id, id, trivial⟩ | exact ⟨id, id, id, trivial⟩ | exact ⟨id, id, id, id, trivial⟩) rfl rfl ⟨rfl, rfl, rfl, trivial⟩ rfl (fun args w => Try.call28 args w) rfl (fun m' hle ρ w hs hok => example_any w) ?_
  refine GD.more tfine 20 rfl rfl ?_ ?_
  · first | trivial | (simp [AllP, condB]; done) | (simp only [AllP]; and_intros <;> first | trivial | decide | omega) | (simp [AllP, condB]; intros; and_intros <;> first | assumption | omega) | (simp [AllP, condB]; intros; simp_all; done) | (simp [AllP, condB]; intros; simp_all; omega) | (simp [AllP, condB]; omega)
  refine GD.callGuard (I 0) 21 rfl rfl rfl rfl (by first | exact trivial | exact ⟨id, trivial⟩ | exact ⟨id, id, trivial⟩ | exact ⟨id, id, id, trivial⟩ | exact ⟨id, id, id, id, trivial⟩) rfl rfl (fun args w => Try.call19 args w) rfl (fun _ m' hle ρ w hs hok => ?_) ?_
  · have o3 := hok _ (List.mem_cons_of_mem _ (List.mem_cons_of_mem _ (List.mem_cons_of_mem _ List.mem_cons_self)))
    have := Verify_any 3 3 (rowAd ρ 808) (ρ 858).1 exL (rowAd ρ 802) (rowAd ρ 803) (rowAd ρ 804) (ρ 852).1 (ρ 853).1 (ρ 854).1 [(0, 0), (2, 1)] [2] [0] w (hs.rowR (hle.at rfl) (hok _ (List.mem_cons_of_mem _ (List.mem_cons_of_mem _ List.mem_cons_self))) (Nat.le_refl _)) (hs.rowR (hle.at rfl) (o3 _ List.mem_cons_self) (Nat.le_refl _)) (hs.rowR (hle.at rfl) (o3 _ (List.mem_cons_of_mem _ List.mem_cons_self)) (Nat.le_refl _)) (hs.rowR (hle.at rfl) (o3 _ (List.mem_cons_of_mem _ (List.mem_cons_of_mem _ List.mem_cons_self))) (Nat.le_refl _)) (by decide) (by decide) (by decide) (by decide)
    rw [ex_verify] at this
    exact this
  refine GD.more tfine 22 rfl rfl ?_ ?_
  · first | trivial | (simp [AllP, condB]; done) | (simp only [AllP]; and_intros <;> first | trivial | decide | omega) | (simp [AllP, condB]; intros; and_intros <;> first | assumption | omega) | (simp [AllP, condB]; intros; simp_all; done) | (simp [AllP, condB]; intros; simp_all; omega) | (simp [AllP, condB]; omega)
  refine GD.callAnsT [.c (.r 5 2 (elE exL))] [809] 25 rfl rfl rfl rfl rfl (by first | exact trivial | exact ⟨id, trivial⟩ | exact ⟨id, id, trivial⟩ | exact ⟨id, id, id, trivial⟩ | exact ⟨id, id, id, id, trivial⟩) rfl rfl ⟨rfl, rfl, rfl, trivial⟩ rfl (fun args w => Try.call28 args w) rfl (fun m' hle ρ w hs hok => example_any w) ?_
  refine GD.more tfine 26 rfl rfl ?_ ?_
  · first | trivial | (simp [AllP, condB]; done) | (simp only [AllP]; and_intros <;> first | trivial | decide | omega) | (simp [AllP, condB]; intros; and_intros <;> first | assumption | omega) | (simp [AllP, condB]; intros; simp_all; done) | (simp [AllP, condB]; intros; simp_all; omega) | (simp [AllP, condB]; omega)
  refine GD.opT tfine 28 rfl rfl rfl rfl (by first | exact trivial | exact ⟨id, trivial⟩ | exact ⟨id, id, trivial⟩ | exact ⟨id, id, id, trivial⟩ | exact ⟨id, id, id, id, trivial⟩) rfl rfl trivial rfl rfl ?_
  refine GD.opT tfine 29 rfl rfl rfl rfl (by first | exact trivial | exact ⟨id, trivial⟩ | exact ⟨id, id, trivial⟩ | exact ⟨id, id, id, trivial⟩ | exact ⟨id, id, id, id, trivial⟩) rfl rfl trivial rfl rfl ?_
  refine GD.opT tfine 30 rfl rfl rfl rfl (by first | exact trivial | exact ⟨id, trivial⟩ | exact ⟨id, id, trivial⟩ | exact ⟨id, id, id, trivial⟩ | exact ⟨id, id, id, id, trivial⟩) rfl rfl trivial rfl rfl ?_
  refine GD.more tfine 31 rfl rfl ?_ ?_
  · first | trivial | (simp [AllP, condB]; done) | (simp only [AllP]; and_intros <;> first | trivial | decide | omega) | (simp [AllP, condB]; intros; and_intros <;> first | assumption | omega) | (simp [AllP, condB]; intros; simp_all; done) | (simp [AllP, condB]; intros; simp_all; omega) | (simp [AllP, condB]; omega)
  refine GD.callGuard (I 0) 32 rfl rfl rfl rfl (by first | exact trivial | exact ⟨id, trivial⟩ | exact ⟨id, id, trivial⟩ | exact ⟨id, id, id, trivial⟩ | exact ⟨id, id, id, id, trivial⟩) rfl rfl (fun args w => Try.call19 args w) rfl (fun _ m' hle ρ w hs hok => ?_) ?_
  · have := Verify_any 3 3 (rowAd ρ 809) (ρ 859).1 exL (some ⟨(ρ 52).1, (ρ 52).2 + 0 * 2, none⟩) (some ⟨(ρ 53).1, (ρ 53).2 + 0 * 1, none⟩) (some ⟨(ρ 54).1, (ρ 54).2 + 0 * 1, none⟩) 2 1 1 [(0, 0), (2, 1)] [2] [0] w (hs.rowR (hle.at rfl) (hok _ (List.mem_cons_of_mem _ (List.mem_cons_of_mem _ List.mem_cons_self))) (Nat.le_refl _))
      (RdRow.congr (hs.rdVar (x := 52) (ty := 35) (vs := [I 0, I 0, I 2, I 1]) (sz := 2) (hle.at rfl) 0 2 (by decide)) fun i hi => by match i, hi with | 0, _ => rfl | 1, _ => rfl) (RdRow.congr (hs.rdVar (x := 53) (ty := 3) (vs := [I 2]) (sz := 1) (hle.at rfl) 0 1 (by decide)) fun i hi => by match i, hi with | 0, _ => rfl) (RdRow.congr (hs.rdVar (x := 54) (ty := 3) (vs := [I 0]) (sz := 1) (hle.at rfl) 0 1 (by decide)) fun i hi => by match i, hi with | 0, _ => rfl) (by decide) (by decide) (by decide) (by decide)
    rw [ex_verify] at this
    exact this
  refine GD.fin tfine 33 rfl rfl ?_ ?_
  · first | trivial | (simp [AllP, condB]; done) | (simp only [AllP]; and_intros <;> first | trivial | decide | omega) | (simp [AllP, condB]; intros; and_intros <;> first | assumption | omega) | (simp [AllP, condB]; intros; simp_all; done) | (simp [AllP, condB]; intros; simp_all; omega) | (simp [AllP, condB]; omega)
  exact G.ret (endK.ret rfl rfl)
end Go.Proofs.Ytnoejcejkdkaeaa
/- The symbolic executor, part AE: make of a row, lists that grow from an empty row on. Generic over P. -/
set_option linter.unusedVariables false
set_option linter.unusedSimpArgs false
namespace Go.Sx
open Go.RowKit
section
variable {P : Program} {E : Env} {K : Exit → St → Prop} {T : Tab}
def accVA (A0 : Option Addr) (d sz n c : Nat) : AC := match n with
  | 0 => .k (.slice A0 0 0)
  | n + 1 => .slc d 0 sz (n + 1) c
theorem GO.appendAccA {A0 : Option Addr} {ops : Array Oper} {rest : List Oper} {o : Oper} {s y : Operand} {t e size bytes d n c : Nat} {z : Value} {t0 : Nat → TV} {m : Mem} {el : Nat → List Value} {q c1 : Nat} {ty1 : TypeId} (vs : List Value) (tl : List (Nat × TV)) (ml : List (Nat × Blk)) (hp : ApT P t e size bytes z) (hg : o.guard = none) (hop : o.op = .call { callee := .builtin .append, args := #[s, y], argTypes := #[t, t] })
    (hd : o.dst = some d) (hdN : Nat.blt d E.N = true) (hdb : Nat.blt d 1000 = true) (hs : evT t0 s = .v (.c (accVA A0 d size n c))) (hx : 0 < n → m d = some (.arr e size n el ((c - n) * size)))
    (hy : evT t0 y = .v (.c (.slc q 0 size 1 c1))) (hq : m q = some (.var ty1 (vs.map .k))) (hv : vs.length = size) (h1 : ∀ u ∈ vs, u.oneCell' = true)
    (hle : St.le E (St.of tl ml) ⟨t0, m⟩) (hfr : ∀ z b, (St.of tl ml).m z = some b → m z = some b ∧ z ≠ d) (hlen : ∀ k, k < n → (el k).length = size) (b1 : n + 1 ≤ maxLen) (b2 : (n + 1) * bytes ≤ 140737488355328)
    (k : ∀ c', n + 1 ≤ c' → GO P E ops K rest ⟨up (St.of tl ml).t d (.v (.c (.slc d 0 size (n + 1) c'))), up (St.of tl ml).m d (some (.arr e size (n + 1) (elN el n vs) ((c' - (n + 1)) * size)))⟩) : GO P E ops K (o :: rest) ⟨t0, m⟩ := by
  have hfree : (St.of tl ml).m d = none := by
    cases h : (St.of tl ml).m d with
    | none => rfl
    | some b => exact absurd rfl (hfr d b h).2
  cases n with
  | succ n => exact GO.appendOwn vs tl ml hp hg hop hd hdN hdb hdb hs (hx (Nat.succ_pos n)) (Nat.le_refl _) hy hq hv h1 hle hfr hfree hlen b1 b2 k
  | zero =>
    intro ρ a w hsat
    have hs0 := hle ρ a w hsat
    have es : a.eval s = .slice A0 0 0 := by have := hsat.eval s; simp only [St.ev, hs] at this; exact this.2
    have ex := hsat.eval y
    simp only [St.ev, hy] at ex
    obtain ⟨B, cc, e3, hr⟩ := (RowOf.var (P := P) (E := E) (c := c1) (n := 1) (sz := size) hq (by omega)) ρ w hsat.mem ex.1
    have hone : ∀ i, i < 1 → elN el 0 vs i = vs := fun i hi => by
      have : i = 0 := by omega
      subst this
      exact elN_eq
    have hr' : RdRow w B 1 size (elN el 0 vs) := hr.congr fun i hi => by
      rw [hone i hi]
      have : i = 0 := by omega
      subst this
      simp [← hv]
    have ex : a.eval y = .slice B 1 cc := ex.2.trans e3
    unfold wpList
    rw [if_pos (by simp [Region.wanted, hg])]
    refine .inl ?_
    unfold Oper.wp
    rcases append_new (ty := o.type) hp (A := A0) (c := cc) hr' (fun i hi u hu => h1 u (by rw [hone i hi] at hu; exact hu)) (by omega) (by omega) with ⟨h0, _⟩ | ⟨h0, v', w', hrun, r1, r2⟩
    · cases h0
    · have : (execOp a.eval o).run P w = .ok (.value v') w' := by
        simp [execOp, hop, resolve, invoke, builtin, es, ex, hrun, Result.andThen]
      rw [this]
      obtain ⟨ρ', c', h2, h3, h4, h5⟩ := hs0.mem.newOwn hfree (by simpa [Nat.blt_eq] using hdb) (fun i hi => by rw [hone i hi]; exact hv) h0 r1 r2
      refine k c' h2 ρ' _ w' ?_
      rw [hd]
      refine (hs0.move h4 (fun y hy => isSome_up y hy) h3).put (by simpa [Nat.blt_eq] using hdN) ⟨?_, h5⟩
      show (up (St.of tl ml).m d _ d).isSome = true
      rw [up_same]; rfl
theorem GO.appendAccAB {A0 : Option Addr} {ops : Array Oper} {rest : List Oper} {o : Oper} {s y : Operand} {t e size bytes d n c : Nat} {z : Value} {t0 : Nat → TV} {m : Mem} {el : Nat → List Value} {q c1 : Nat} {ty1 : TypeId} (vs : List Value) (tl : List (Nat × TV)) (ml : List (Nat × Blk)) (hp : ApT P t e size bytes z) (hg : o.guard = none) (hop : o.op = .call { callee := .builtin .append, args := #[s, y], argTypes := #[t, t] })
    (hd : o.dst = some d) (hdN : Nat.blt d E.N = true) (hdb : Nat.blt d 1000 = true) (hs : evT t0 s = .v (.c (accVA A0 d size n c))) (hx : m d = some (accB e size n c el))
    (hy : evT t0 y = .v (.c (.slc q 0 size 1 c1))) (hq : m q = some (.var ty1 (vs.map .k))) (hv : vs.length = size) (h1 : ∀ u ∈ vs, u.oneCell' = true)
    (hle : St.le E (St.of tl ml) ⟨t0, m⟩) (hfr : ∀ z b, (St.of tl ml).m z = some b → m z = some b ∧ z ≠ d) (hlen : ∀ k, k < n → (el k).length = size) (b1 : n + 1 ≤ maxLen) (b2 : (n + 1) * bytes ≤ 140737488355328)
    (k : ∀ c', n + 1 ≤ c' → GO P E ops K rest ⟨up (St.of tl ml).t d (.v (.c (.slc d 0 size (n + 1) c'))), up (St.of tl ml).m d (some (.arr e size (n + 1) (elN el n vs) ((c' - (n + 1)) * size)))⟩) : GO P E ops K (o :: rest) ⟨t0, m⟩ :=
  GO.appendAccA vs tl ml hp hg hop hd hdN hdb hs (fun h0 => by rw [hx, accB_pos h0]) hy hq hv h1 hle hfr hlen b1 b2 k
/-- make of n elements of one cell each. -/
theorem GO.make1 {ops : Array Oper} {rest : List Oper} {o : Oper} {l c : Operand} {t e bytes d : Nat} {z : Value} {t0 : Nat → TV} {m : Mem} {kl kc : IntKind} (n : Nat) (hp : ApT P t e 1 bytes z) (hz1 : z.cells = #[z]) (hg : o.guard = none) (hop : o.op = .makeSlice t l c)
    (hd : o.dst = some d) (hdN : Nat.blt d E.N = true) (hdb : Nat.blt d 1000 = true) (hfree : m d = none) (hl : evT t0 l = .v (.c (.k (.int kl (n : Int))))) (hc : evT t0 c = .v (.c (.k (.int kc (n : Int))))) (b1 : n ≤ maxLen) (b2 : bytes * n ≤ 281474976710656)
    (k0 : n = 0 → ∀ A, (∀ a : Addr, A = some a → a.spot = none) → GO P E ops K rest ⟨up t0 d (.v (.c (.k (.slice A 0 0)))), m⟩)
    (k1 : 0 < n → ∀ c, n ≤ c → GO P E ops K rest ⟨up t0 d (.v (.c (.slc d 0 1 n c))), up m d (some (.arr e 1 n (fun _ => [z]) ((c - n) * 1)))⟩) : GO P E ops K (o :: rest) ⟨t0, m⟩ := by
  intro ρ a w hsat
  obtain ⟨i, hi, hz, hs, hb⟩ := hp.info
  have el : a.eval l = .int kl (n : Int) := by have := hsat.eval l; simp only [St.ev, hl] at this; exact this.2
  have ec : a.eval c = .int kc (n : Int) := by have := hsat.eval c; simp only [St.ev, hc] at this; exact this.2
  obtain ⟨w', hrun, r1, r2⟩ := run_make_full (P := P) w w.heap.size t e i z 1 hp.ht hi hz hs kl kc n (by rw [hb]; exact b2) b1 (Nat.le_refl _)
  have hcells : (madeCells z.cells (n * 1)).toList = flatE (fun _ => [z]) 0 n := by
    rw [hz1, toList_madeCells_one, Nat.mul_one]
    have : ∀ (k i : Nat), flatE (fun _ => [z]) i k = List.replicate k z := by
      intro k
      induction k with
      | zero => intro i; rfl
      | succ k ih => intro i; rw [flatE, ih]; rfl
    exact (this n 0).symm
  rw [hcells] at r1
  unfold wpList
  rw [if_pos (by simp [Region.wanted, hg])]
  refine .inl ?_
  unfold Oper.wp
  have : (execOp a.eval o).run P w = .ok (.value (.slice (some ⟨w.heap.size, 0, none⟩) n n)) w' := by
    simp [execOp, hop, el, ec, hrun, Result.andThen]
  rw [this]
  by_cases h0 : n = 0
  · refine k0 h0 (some ⟨w.heap.size, 0, none⟩) (fun a ha => by injection ha with ha; subst ha; rfl) ρ _ w' ?_
    rw [hd]
    have hbl : Below w.heap.size w w' := ⟨r2.os, r2.tape, r2.output, r2.size, fun k hk => r2.block k hk (by simp)⟩
    refine (hsat.below hbl).put (by simpa [Nat.blt_eq] using hdN) ⟨trivial, ?_⟩
    subst h0
    rfl
  · obtain ⟨ρ', c', h2, h3, h4, h5⟩ := hsat.mem.newOwn hfree (by simpa [Nat.blt_eq] using hdb) (el := fun _ => [z]) (fun i hi => rfl) (by omega) r1 r2
    refine k1 (by omega) c' h2 ρ' _ w' ?_
    rw [hd]
    refine (hsat.move h4 (fun y hy => isSome_up y hy) h3).put (by simpa [Nat.blt_eq] using hdN) ⟨?_, h5⟩
    show (up m d _ d).isSome = true
    rw [up_same]; rfl
end
end Go.Sx
/- Chapter 37: the reference's search for a partner, and its Size. -/
set_option linter.unusedVariables false
set_option linter.unusedSimpArgs false
set_option maxRecDepth 8000
set_option maxHeartbeats 1000000
namespace Go.Proofs.Ytnoejcejkdkaeaa
open Go.Sx Go.RowKit Mt
def elP (f : Nat → Nat) (i : Nat) : List Value := [I ((f i : Int) - 1)]
def Sl (g m c : Nat) : Value := .slice (some ⟨g, 0, none⟩) m c
theorem up_elP (f : Nat → Nat) (a v i : Nat) {x : Int} (hx : x = (v : Int) - 1) : (bif Nat.beq i a then [Value.int .i64 x] else elP f i) = elP (fup f a v) i := by
  subst hx
  simp only [elP, fup]
  by_cases e : i = a
  · subst e; simp
  · simp [nbeq e, e]
def CP (m gp gs : Nat) (s : Ms) : List Bw := [⟨1900, gp, .arr 3 1 m (elP s.right) 0⟩, ⟨1901, gs, .arr 4 1 m (elB s.seen) 0⟩]
theorem better_nil (A : Option Addr) (c : Nat) (a : Int) (u v : Value) (w : World) : Calls Try.prog 46 #[.slice A 0 c, I a, u, v] w fun e w' => e = .returned (.bool false) ∧ Below w.heap.size w w' := by
  refine enterPlain tfine Try.func46 rfl 57 Try.ntmps46 [.c (.k (.slice A 0 c)), .c (.k (I a)), .c (.k u), .c (.k v)] [] rfl rfl trivial ⟨trivial, trivial, trivial, trivial, trivial⟩ ?_
  refine G.seqR tfine rfl trivial ?_
  refine G.seq (G.seqR tfine rfl trivial ?_)
  refine G.block (G.loop (fun z : Unit => St.of [(0, .v (.c (.k (.slice A 0 c)))), (9, .v (.c (.k (I 0))))] []) (fun _ => True) (fun _ => 0) () trivial (St.le_of rfl trivial ⟨rfl, rfl, trivial⟩) ?_)
  intro z _
  refine G.seq (G.seqR tfine rfl trivial ?_)
  refine G.cond_false rfl ?_
  refine G.exit ?_
  refine G.seqR tfine rfl trivial ?_
  exact G.ret (endK.ret rfl rfl)
theorem better_any (L : List Eg) (A : Option Addr) (c m : Nat) (hm : m ≤ 24) (hL : ∀ e ∈ L, e.1 < 24 ∧ e.2 < m) (hlen : L.length ≤ 4611686018427387904) : ∀ (f a : Nat) (s : Ms) (gp gs cp cs : Nat) (w : World), a < 24 → Bd s → uns 24 s.seen < f →
    RdRow w A L.length 2 (elG L) → (0 < L.length → ∀ x, A = some x → x.block ≠ gp) → (0 < L.length → ∀ x, A = some x → x.block ≠ gs) → gp ≠ gs → OwnAt w gp 3 m 1 (elP s.right) 0 → OwnAt w gs 4 m 1 (elB s.seen) 0 →
    Calls Try.prog 46 #[.slice A L.length c, I a, Sl gp m cp, Sl gs m cs] w fun e w' => e = .returned (.bool (find L f a s).1) ∧ Fr w [gp, gs] w' ∧ OwnAt w' gp 3 m 1 (elP (find L f a s).2.right) 0 ∧ OwnAt w' gs 4 m 1 (elB (find L f a s).2.seen) 0 := by
  have hL24 : ∀ e ∈ L, e.1 < 24 ∧ e.2 < 24 := fun e he => by have := hL e he; omega
  intro f
  induction f with
  | zero => intro a s gp gs cp cs w _ _ h; omega
  | succ f ih =>
  intro a s gp gs cp cs w ha hbd hu hrow fp fs hne hop hos
  refine (enterBw (v := .bool (find L (f + 1) a s).1) tfine (CP m gp gs s) (CP m gp gs (find L (f + 1) a s).2) Try.func46 rfl 57 Try.ntmps46 [.c (.inp 1000 A L.length c), .c (.k (I a)), .c (.slc 1900 0 1 m cp), .c (.slc 1901 0 1 m cs)] [⟨1000, A, 2, L.length, elG L⟩]
    ⟨hrow, trivial⟩ ⟨(show (1000 : Nat) < 1900 by decide), trivial⟩ ⟨⟨⟨nx rfl, hne⟩, trivial⟩, trivial, trivial⟩ ⟨⟨Nat.le_of_ble_eq_true rfl, ⟨fp, trivial⟩, trivial, hop⟩, ⟨Nat.le_of_ble_eq_true rfl, ⟨fs, trivial⟩, trivial, hos⟩, trivial⟩ rfl rfl ⟨.inl ⟨rfl, rfl, rfl⟩, trivial, .inl rfl, .inr (.inl rfl), trivial⟩ ?_ ⟨trivial, trivial, trivial⟩ ?_).mono ?_
  · intro b hb
    simp only [CP, List.mem_cons, List.not_mem_nil, or_false] at hb
    rcases hb with rfl | rfl
    · exact ⟨_, List.mem_cons_self, rfl, rfl⟩
    · exact ⟨_, List.mem_cons_of_mem _ List.mem_cons_self, rfl, rfl⟩
  · generalize hbb : bwB (CP m gp gs s) = bor
    refine G.seqR tfine rfl trivial ?_
    refine G.seq (G.seqR tfine rfl trivial ?_)
    refine G.block (G.loop (fun z : Nat × Ms => St.of [(0, .v (.c (.inp 1000 A L.length c))), (1, .v (.c (.k (I a)))), (2, .v (.c (.slc 1900 0 1 m cp))), (3, .v (.c (.slc 1901 0 1 m cs))), (9, .v (.c (.k (I z.1))))]
        [(1900, .arr 3 1 m (elP z.2.right) 0), (1901, .arr 4 1 m (elB z.2.seen) 0), (1000, .ro 2 L.length (elG L))])
      (fun z => z.1 ≤ L.length ∧ tryE (find L f) a L s = tryE (find L f) a (L.drop z.1) z.2 ∧ uns 24 z.2.seen ≤ uns 24 s.seen ∧ Bd z.2) (fun z => L.length - z.1) (0, s) ⟨Nat.zero_le _, rfl, Nat.le_refl _, hbd⟩
      (St.le_of rfl ⟨⟨_, rfl, Blk.le_refl _⟩, ⟨_, rfl, Blk.le_refl _⟩, ⟨_, rfl, Blk.le_refl _⟩, trivial⟩ ⟨rfl, rfl, rfl, rfl, rfl, trivial⟩) ?_)
    rintro ⟨k, sk⟩ ⟨hk, he, huk, hbk⟩
    dsimp only at hk he huk hbk ⊢
    refine G.seq (G.seqR tfine rfl trivial ?_)
    refine G.cond (b := decide ((k : Int) < (L.length : Int))) rfl (fun h => ?_) (fun h => ?_)
    rotate_left
    · have h := of_decide_eq_false h
      have : k = L.length := by omega
      subst this
      refine G.exit ?_
      refine G.seqR tfine rfl trivial ?_
      rw [List.drop_length] at he
      refine G.ret (endBw.ret rfl ?_ ?_)
      · rw [find, he]
        rfl
      · rw [find, he]
        exact ⟨⟨_, _, rfl, fun i hi => rfl⟩, ⟨_, _, rfl, fun i hi => rfl⟩, trivial⟩
    have h := of_decide_eq_true h
    have hlt : k < L.length := by omega
    obtain ⟨x, hx⟩ : ∃ x, x = (L.getD k (0, 0)).1 := ⟨_, rfl⟩
    obtain ⟨y, hy⟩ : ∃ y, y = (L.getD k (0, 0)).2 := ⟨_, rfl⟩
    have hxy : (x, y) = L.getD k (0, 0) := by rw [hx, hy]
    have hmem : (x, y) ∈ L := by rw [hxy, List.getD_eq_getElem?_getD, List.getElem?_eq_getElem hlt]; exact List.getElem_mem hlt
    have hd : L.drop k = (x, y) :: L.drop (k + 1) := by
      rw [hxy, List.getD_eq_getElem?_getD, List.getElem?_eq_getElem hlt, Option.getD_some, List.drop_eq_getElem_cons hlt]
    have hx24 : x < 24 := (hL _ hmem).1
    have hym : y < m := (hL _ hmem).2
    have hy24 : y < 24 := by omega
    rw [hd, tryE] at he
    refine G.skip ?_
    refine G.seq (G.block ?_)
    refine G.seqR tfine rfl ⟨by simpa using hlt, by omega, by omega, trivial⟩ ?_
    rw [Int.toNat_natCast, ← hy]
    refine G.seq (G.seqR tfine rfl ?_ ?_)
    · simp [AllP, condB]
      omega
    simp only [Int.toNat_natCast, Nat.zero_add]
    rw [← hx]
    refine G.cond (b := ((x : Int) != (a : Int)) || sk.seen y) rfl (fun h2 => ?_) (fun h2 => ?_)
    · refine G.exit ?_
      refine G.reg tfine rfl trivial ?_
      rw [IntWalk.i64_in _ (by omega)]
      have h2' : x ≠ a ∨ sk.seen y = true := by
        simp only [Bool.or_eq_true, bne_iff_ne, ne_eq] at h2
        rcases h2 with h2 | h2
        · exact .inl (by omega)
        · exact .inr h2
      rw [if_pos h2'] at he
      exact ⟨(k + 1, sk), ⟨by simp only; omega, he, huk, hbk⟩, (by show L.length - (k + 1) < L.length - k; omega), St.le_of rfl ⟨⟨_, rfl, Blk.le_refl _⟩, ⟨_, rfl, Blk.le_refl _⟩, ⟨_, rfl, Blk.le_refl _⟩, trivial⟩ ⟨rfl, rfl, rfl, rfl, by simp [up, I], trivial⟩⟩
    have h2' : ¬ (x ≠ a ∨ sk.seen y = true) := by
      simp only [Bool.or_eq_false_iff, bne_eq_false_iff_eq] at h2
      simp [h2.2]
      omega
    rw [if_neg h2'] at he
    have hsy : sk.seen y = false := by
      cases e : sk.seen y with
      | false => rfl
      | true => exact absurd (.inr e) h2'
    have hus := uns_see hy24 hsy
    refine G.skip ?_
    refine G.seqR tfine rfl ?_ ?_
    · simp [AllP]
      omega
    simp only [Int.toNat_natCast, Nat.zero_add]
    have hsee : ∀ i, i < m → (bif Nat.beq i y then [Value.bool true] else elB sk.seen i) = elB (sk.see y).seen i := by
      intro i _
      simp only [elB, Ms.see, fup]
      by_cases e : i = y
      · subst e; simp
      · simp [nbeq e, e]
    refine G.seqC tfine rfl ?_ ?_
    · simp [AllP, condB]
      omega
    simp only [Int.toNat_natCast, Nat.zero_add]
    by_cases hr0 : sk.right y = 0
    · rw [if_pos hr0] at he
      refine GO.steps (Steps.shut (C := ⟨_, _⟩) (cb := condB false (decide ((sk.right y : Int) - 1 < 0))) (.c (.k (.bool false))) (by simp [condB, hr0]) rfl rfl rfl) ?_
      refine GO.fin tfine rfl ?_ ?_
      · simp [AllP, condB]
      refine G.cond (b := decide ((sk.right y : Int) - 1 < 0) || false) rfl (fun h3 => ?_) (fun h3 => ?_)
      rotate_left
      · simp [hr0] at h3
      refine G.seqR tfine rfl ?_ ?_
      · simp [AllP]
        omega
      simp only [Int.toNat_natCast, Nat.zero_add]
      refine G.seqR tfine rfl trivial ?_
      refine G.ret (endBw.ret rfl ?_ ?_)
      · rw [find, he]
      · rw [find, he]
        exact ⟨⟨_, _, rfl, fun i hi => up_elP _ _ _ _ (by omega)⟩, ⟨_, _, rfl, hsee⟩, trivial⟩
    rw [if_neg hr0] at he
    obtain ⟨⟨r, s2⟩, hfr⟩ : ∃ q, q = find L f (sk.right y - 1) (sk.see y) := ⟨_, rfl⟩
    rw [← hfr] at he
    have hr24 := hbk.r y
    have hbs : Bd (sk.see y) := ⟨hbk.l, hbk.r⟩
    have hb2 := find_bd hL24 f (sk.right y - 1) (sk.see y) (by omega) hbs
    rw [← hfr] at hb2
    have hu2 : uns 24 s2.seen ≤ uns 24 s.seen := by
      have h1 : uns 24 s2.seen ≤ uns 24 (sk.see y).seen := uns_mono fun z hz => by
        have := find_seen L f (sk.right y - 1) (sk.see y) z hz
        rwa [← hfr] at this
      have h2 : uns 24 (sk.see y).seen < uns 24 sk.seen := hus
      omega
    refine GO.steps (Steps.callBwT (C := ⟨_, _⟩) (cb := condB false (decide ((sk.right y : Int) - 1 < 0))) (v := .bool r) [⟨1900, .arr 3 1 m (elP s2.right) 0⟩, ⟨1901, .arr 4 1 m (elB s2.seen) 0⟩] (by simp [condB]; omega) rfl rfl rfl (by first | exact trivial | exact ⟨id, trivial⟩ | exact ⟨id, id, trivial⟩ | exact ⟨id, id, id, trivial⟩ | exact ⟨id, id, id, id, trivial⟩) rfl rfl (fun args w => Try.call46 args w) ⟨⟨_, rfl, trivial⟩, ⟨_, rfl, trivial⟩, trivial⟩ trivial rfl (fun m2 hle ρ w2 hs hok hok2 => ?_)) ?_
    · have hb : ∀ x g, (x, g) ∈ bwB (CP m gp gs s) → ρ x = (g, 0) := fun x g h => (hs.bo (x, g) (by rw [← hbb]; exact h)).1
      have b0 := hb 1900 gp (by simp [bwB, CP])
      have b1 := hb 1901 gs (by simp [bwB, CP])
      have k0 := (hs.ok 1900 _ (hle.at rfl)).2.2
      have k1 := (hs.ok 1901 _ (hle.at rfl)).2.2
      have hin : AC.ok ρ m2 (.inp 1000 A L.length c) := hok _ List.mem_cons_self
      have f0 := hs.apart (x := 1900) (hle.at rfl) trivial (q := 1000) (hle.at rfl) hin (Nat.le_refl _) (nx rfl)
      have f1 := hs.apart (x := 1901) (hle.at rfl) trivial (q := 1000) (hle.at rfl) hin (Nat.le_refl _) (nx rfl)
      rw [b0] at k0 f0
      rw [b1] at k1 f1
      have := ih (sk.right y - 1) (sk.see y) gp gs cp cs w2 (by omega) hbs (by show uns 24 (fup sk.seen y true) < f; omega) (hs.rd (cap := c) (hle.at rfl) hin (Nat.le_refl _)) f0 f1 hne k0 (OwnAt.congr k1 hsee)
      rw [← hfr] at this
      have eargs : (([AV.c (.inp 1000 A L.length c), AV.c (AC.k (I ((sk.right y : Int) - 1))), AV.c (.slc 1900 0 1 m cp), AV.c (.slc 1901 0 1 m cs)].map (AV.conc ρ)) ++ (([] : List Cap).map (Cap.conc ρ))).toArray = #[.slice A L.length c, I ((sk.right y - 1 : Nat) : Int), Sl gp m cp, Sl gs m cs] := by
        have : ((sk.right y - 1 : Nat) : Int) = (sk.right y : Int) - 1 := by omega
        rw [this]
        simp [AV.conc, AC.conc, b0, b1, Sl]
      rw [← eargs] at this
      refine this.mono ?_
      rintro e w' ⟨rfl, hf, o1, o2⟩
      refine ⟨rfl, ?_, ?_, ?_, trivial⟩
      · simp only [List.map_cons, List.map_nil, b0, b1]; exact hf
      · show OwnAt w' (ρ 1900).1 _ _ _ _ _
        rw [b0]; exact o1
      · show OwnAt w' (ρ 1901).1 _ _ _ _ _
        rw [b1]; exact o2
    refine GO.fin tfine rfl ?_ ?_
    · simp [AllP, condB]
    refine G.cond (b := decide ((sk.right y : Int) - 1 < 0) || r) rfl (fun h3 => ?_) (fun h3 => ?_)
    · have hrt : r = true := by
        rw [Bool.or_eq_true] at h3
        rcases h3 with h3 | h3
        · have := of_decide_eq_true h3; omega
        · exact h3
      subst hrt
      refine G.seqR tfine rfl ?_ ?_
      · simp [AllP]
        omega
      simp only [Int.toNat_natCast, Nat.zero_add]
      refine G.seqR tfine rfl trivial ?_
      refine G.ret (endBw.ret rfl ?_ ?_)
      · rw [find, he]
      · rw [find, he]
        exact ⟨⟨_, _, rfl, fun i hi => up_elP _ _ _ _ (by omega)⟩, ⟨_, _, rfl, fun i hi => rfl⟩, trivial⟩
    · have hrt : r = false := by
        cases r with
        | false => rfl
        | true => simp at h3
      subst hrt
      refine G.skip ?_
      refine G.reg tfine rfl trivial ?_
      rw [IntWalk.i64_in ((k : Int) + 1) (by omega)]
      exact ⟨(k + 1, s2), ⟨by simp only; omega, he, hu2, hb2⟩, (by show L.length - (k + 1) < L.length - k; omega), St.le_of rfl ⟨⟨_, rfl, Blk.le_refl _⟩, ⟨_, rfl, Blk.le_refl _⟩, ⟨_, rfl, Blk.le_refl _⟩, trivial⟩ ⟨rfl, rfl, rfl, rfl, by simp [up, I], trivial⟩⟩
  · rintro e w' ⟨rfl, hf, h1, h2, _⟩
    exact ⟨rfl, hf, h1, h2⟩
theorem apB : ApT Try.prog 74 4 1 1 (.bool false) := ⟨by kernel_rfl, by kernel_rfl, rfl, by decide⟩
theorem matched_succ (n : Nat) (L : List Eg) : matched (n + 1) L = stage L (matched n L) n := by
  unfold matched
  rw [List.range_succ, List.foldl_append]
  rfl
theorem partners_any (L : List Eg) (A : Option Addr) (c n m : Nat) (hn : n ≤ 24) (hm : m ≤ 24) (hL : ∀ e ∈ L, e.1 < 24 ∧ e.2 < m) (hlen : L.length ≤ 4611686018427387904) (w : World) (hl : RdRow w A L.length 2 (elG L)) :
    Calls Try.prog 34 #[I n, I m, .slice A L.length c] w fun e w' => Ans w w' [.c (.r m 1 (elP (matched n L).right))] e ∧ Below w.heap.size w w' := by
  have hL24 : ∀ e ∈ L, e.1 < 24 ∧ e.2 < 24 := fun e he => by have := hL e he; omega
  refine enterAns tfine _ Try.func34 rfl 31 Try.ntmps34 [.c (.k (I n)), .c (.k (I m)), .c (.inp 1000 A L.length c)] [⟨1000, A, 2, L.length, elG L⟩] rfl rfl ⟨hl, trivial⟩ ⟨trivial, trivial, .inl ⟨rfl, rfl, rfl⟩, trivial⟩ ?_
  refine G.seqR tfine rfl trivial ?_
  refine G.seqC tfine rfl trivial ?_
  refine GO.emptySliceS tfine rfl rfl rfl rfl rfl rfl rfl fun A0 hA0 => ?_
  refine GO.fin tfine rfl trivial ?_
  refine G.newNil 18 1 (elP fun _ => 0) rfl ?_
  refine G.seq (G.seqR tfine rfl trivial ?_)
  refine G.block (G.loop (fun z : Nat × Nat => St.of [(0, .v (.c (.k (I n)))), (1, .v (.c (.k (I m)))), (2, .v (.c (.inp 1000 A L.length c))), (7, .v (.c (accVA A0 18 1 z.1 z.2))), (8, .v (.c (.k (I z.1))))] [(18, accB 3 1 z.1 z.2 (elP fun _ => 0)), (1000, .ro 2 L.length (elG L))])
    (fun z => z.1 ≤ m ∧ z.1 ≤ z.2) (fun z => m - z.1) (0, 0) ⟨Nat.zero_le _, Nat.le_refl _⟩ (St.le_of rfl ⟨⟨_, rfl, Blk.le_refl _⟩, ⟨_, rfl, Blk.le_refl _⟩, trivial⟩ ⟨rfl, rfl, rfl, rfl, rfl, trivial⟩) ?_)
  rintro ⟨j, cp⟩ ⟨hj, hcp⟩
  dsimp only at hj hcp ⊢
  refine G.seq (G.seqR tfine rfl trivial ?_)
  refine G.cond (b := decide ((j : Int) < (m : Int))) rfl (fun h => ?_) (fun h => ?_)
  · have h := of_decide_eq_true h
    refine G.skip ?_
    refine G.seq (G.block ?_)
    refine G.region_lit ?_
    refine GO.moveAny tfine rfl (.inl rfl) rfl rfl rfl ?_
    refine GO.more tfine rfl trivial ?_
    refine GO.appendAccAB (n := j) (c := cp) (el := elP fun _ => 0) [I (-1)] [(0, .v (.c (.k (I n)))), (1, .v (.c (.k (I m)))), (2, .v (.c (.inp 1000 A L.length c))), (8, .v (.c (.k (I j))))] [(1000, .ro 2 L.length (elG L))] apT35 rfl rfl rfl rfl rfl rfl rfl rfl rfl rfl (fun u hu => by simp at hu; subst hu; rfl)
      (St.le_of rfl ⟨⟨_, rfl, Blk.le_refl _⟩, trivial⟩ ⟨rfl, rfl, rfl, rfl, trivial⟩) (subM.fr ⟨rfl, nx rfl, trivial⟩) (fun k hk => rfl) (by unfold maxLen; omega) (by omega) fun c' hc' => ?_
    refine GO.fin tfine rfl trivial ?_
    refine G.reg tfine rfl trivial ?_
    rw [IntWalk.i64_in ((j : Int) + 1) (by omega)]
    refine ⟨(j + 1, c'), ⟨by simp only; omega, hc'⟩, (by show m - (j + 1) < m - j; omega), St.le_of rfl ⟨⟨_, rfl, rfl, rfl, Nat.le_refl _, fun k hk => ?_, Nat.le_refl _⟩, ⟨_, rfl, Blk.le_refl _⟩, trivial⟩ ⟨rfl, rfl, rfl, rfl, by simp [up, I], trivial⟩⟩
    have hk' : k < j + 1 := hk
    by_cases e : k = j
    · subst e
      rw [elN_eq]
      rfl
    · rw [elN_lt (by omega)]
  have h := of_decide_eq_false h
  have : j = m := by omega
  subst this
  refine G.exit ?_
  refine G.seq (G.seqR tfine rfl trivial ?_)
  rcases j with _ | j
  · have hnil : L = [] := by
      cases L with
      | nil => rfl
      | cons e r => have := (hL e List.mem_cons_self).2; omega
    subst hnil
    refine G.block (G.loop (fun z : Nat => St.of [(0, .v (.c (.k (I n)))), (1, .v (.c (.k (I (0 : Nat))))), (2, .v (.c (.inp 1000 A 0 c))), (7, .v (.c (.k (.slice A0 0 0)))), (9, .v (.c (.k (I z))))] [(1000, .ro 2 0 (elG []))])
      (fun z => z ≤ n) (fun z => n - z) 0 (Nat.zero_le _) (St.le_of rfl ⟨⟨_, rfl, Blk.le_refl _⟩, trivial⟩ ⟨rfl, rfl, rfl, rfl, rfl, trivial⟩) ?_)
    intro k hk
    refine G.seq (G.seqR tfine rfl trivial ?_)
    refine G.cond (b := decide ((k : Int) < (n : Int))) rfl (fun h2 => ?_) (fun h2 => ?_)
    rotate_left
    · refine G.exit ?_
      refine G.seqR tfine rfl trivial ?_
      exact G.ret (endAns.ret ⟨⟨_, rfl, rfl, rfl, hA0⟩, trivial⟩)
    have h2 := of_decide_eq_true h2
    refine G.skip ?_
    refine G.seq (G.block ?_)
    refine G.regC tfine rfl trivial ?_
    refine GO.make1 0 apB rfl rfl rfl rfl rfl rfl rfl rfl rfl (by decide) (by decide) (fun _ A1 hA1 => ?_) (fun h0 => absurd h0 (Nat.lt_irrefl 0))
    refine GO.callPlain (v := .bool false) rfl rfl rfl rfl (fun args w => Try.call46 args w) (fun ρ w hs hok => better_nil A c k _ _ w) ?_
    refine GO.nil ?_
    refine G.reg tfine rfl trivial ?_
    rw [IntWalk.i64_in ((k : Int) + 1) (by omega)]
    exact ⟨k + 1, (by omega), (by show n - (k + 1) < n - k; omega), St.le_of rfl ⟨⟨_, rfl, Blk.le_refl _⟩, trivial⟩ ⟨rfl, rfl, rfl, rfl, by simp [up, I], trivial⟩⟩
  · refine G.block (G.loop (fun z : Nat => St.of [(0, .v (.c (.k (I n)))), (1, .v (.c (.k (I (j + 1 : Nat))))), (2, .v (.c (.inp 1000 A L.length c))), (7, .v (.c (.slc 18 0 1 (j + 1) cp))), (9, .v (.c (.k (I z))))] [(18, .arr 3 1 (j + 1) (elP (matched z L).right) 0), (1000, .ro 2 L.length (elG L))])
      (fun z => z ≤ n) (fun z => n - z) 0 (Nat.zero_le _) (St.le_of rfl ⟨⟨_, rfl, rfl, rfl, Nat.le_refl _, fun i hi => rfl, Nat.le_add_right _ _⟩, ⟨_, rfl, Blk.le_refl _⟩, trivial⟩ ⟨rfl, rfl, rfl, rfl, rfl, trivial⟩) ?_)
    intro k hk
    refine G.seq (G.seqR tfine rfl trivial ?_)
    refine G.cond (b := decide ((k : Int) < (n : Int))) rfl (fun h2 => ?_) (fun h2 => ?_)
    rotate_left
    · have h2 := of_decide_eq_false h2
      have : k = n := by omega
      subst this
      refine G.exit ?_
      refine G.seqR tfine rfl trivial ?_
      exact G.ret (endAns.ret ⟨⟨_, rfl, hcp, rfl, rfl, rfl, by omega, fun i hi => by rw [Nat.zero_add]⟩, trivial⟩)
    have h2 := of_decide_eq_true h2
    have hbk := matched_bd hL24 k (by omega)
    obtain ⟨s0, hs0⟩ : ∃ s0 : Ms, s0 = ⟨(matched k L).left, (matched k L).right, fun _ => false⟩ := ⟨_, rfl⟩
    have hnext : matched (k + 1) L = (find L 25 k s0).2 := by rw [matched_succ, hs0]; rfl
    refine G.skip ?_
    refine G.seq (G.block ?_)
    refine G.regC tfine rfl trivial ?_
    refine GO.make1 (j + 1) apB rfl rfl rfl rfl rfl rfl rfl rfl rfl (by unfold maxLen; omega) (by omega) (fun h0 => by omega) (fun _ c2 hc2 => ?_)
    refine GO.callBw (v := .bool (find L 25 k s0).1) [⟨18, .arr 3 1 (j + 1) (elP (find L 25 k s0).2.right) 0⟩, ⟨28, .arr 4 1 (j + 1) (elB (find L 25 k s0).2.seen) 0⟩] rfl rfl rfl rfl (fun args w => Try.call46 args w) ⟨⟨_, rfl, trivial⟩, ⟨_, rfl, trivial⟩, trivial⟩ trivial (fun ρ w2 hs hok hok2 => ?_) ?_
    · have k0 := hs.ok 18 _ rfl
      have k1 := hs.ok 28 _ rfl
      have hin : AC.ok ρ _ (.inp 1000 A L.length c) := hok _ List.mem_cons_self
      have f0 := hs.apart (x := 18) rfl trivial (q := 1000) rfl hin (Nat.le_refl _) (nx rfl)
      have f1 := hs.apart (x := 28) rfl trivial (q := 1000) rfl hin (Nat.le_refl _) (nx rfl)
      have hne := hs.ne 18 28 _ _ rfl rfl trivial trivial (nx rfl)
      have hos : OwnAt w2 (ρ 28).1 4 (j + 1) 1 (elB s0.seen) 0 := by
        obtain ⟨a, h1, h3, h4⟩ := k1.2.2
        exact ⟨a, h1, by omega, fun i hi => by rw [hs0]; exact h4 i hi⟩
      have := better_any L A c (j + 1) hm hL hlen 25 k s0 (ρ 18).1 (ρ 28).1 cp c2 w2 (by omega) (by rw [hs0]; exact ⟨hbk.l, hbk.r⟩) (by have := uns_le 24 s0.seen; omega) (hs.rd (cap := c) rfl hin (Nat.le_refl _)) f0 f1 hne (by rw [hs0]; exact k0.2.2) hos
      have e0 := k0.1
      have e1 := k1.1
      have eargs : (([AV.c (.inp 1000 A L.length c), AV.c (AC.k (I k)), AV.c (.slc 18 0 1 (j + 1) cp), AV.c (.slc 28 0 1 (j + 1) c2)].map (AV.conc ρ)) ++ (([] : List Cap).map (Cap.conc ρ))).toArray = #[.slice A L.length c, I k, Sl (ρ 18).1 (j + 1) cp, Sl (ρ 28).1 (j + 1) c2] := by
        simp [AV.conc, AC.conc, e0, e1, Sl]
      rw [← eargs] at this
      refine this.mono ?_
      rintro e w' ⟨rfl, hf, o1, o2⟩
      exact ⟨rfl, hf, o1, o2, trivial⟩
    refine GO.nil ?_
    refine G.reg tfine rfl trivial ?_
    rw [IntWalk.i64_in ((k : Int) + 1) (by omega)]
    refine ⟨k + 1, (by omega), (by show n - (k + 1) < n - k; omega), St.le_of rfl ⟨⟨_, rfl, ?_⟩, ⟨_, rfl, Blk.le_refl _⟩, trivial⟩ ⟨rfl, rfl, rfl, rfl, by simp [up, I], trivial⟩⟩
    rw [hnext]
    exact Blk.le_refl _
theorem refSize_any (n m : Int) (A : Option Addr) (c : Nat) (l : List EI) (w : World) (hl : RdRow w A l.length 2 (elE l)) (hm : l.length ≤ 1000000) :
    Calls Try.prog 16 #[I n, I m, .slice A l.length c] w fun e w' => e = .returned (.tuple #[I (sizeA n m l).1, I (sizeA n m l).2]) ∧ Below w.heap.size w w' := by
  refine enterPlain tfine Try.func16 rfl 33 Try.ntmps16 [.c (.k (I n)), .c (.k (I m)), .c (.inp 1000 A l.length c)] [⟨1000, A, 2, l.length, elE l⟩] rfl rfl ⟨hl, trivial⟩ ⟨trivial, trivial, .inl ⟨rfl, rfl, rfl⟩, trivial⟩ ?_
  refine G.seqR tfine rfl trivial ?_
  refine G.seq ?_
  refine G.seqC tfine rfl trivial ?_
  refine GO.callPlain (v := I (checkM n m l)) rfl rfl rfl rfl (fun args w => Try.call18 args w) (fun ρ w hs hok => refCheck_any n m A c l w (hs.row (cap := c) rfl (hok _ (List.mem_cons_of_mem _ (List.mem_cons_of_mem _ List.mem_cons_self)))) hm) ?_
  refine GO.fin tfine rfl trivial ?_
  refine G.cond (b := (checkM n m l != 0)) rfl (fun h => ?_) (fun h => ?_)
  · refine G.seqR tfine rfl trivial ?_
    refine G.ret (endK.ret rfl ?_)
    rw [sizeA, if_pos h]
  have h0 : checkM n m l = 0 := by simpa using h
  have ok := check_ok h0
  obtain ⟨L, hLe⟩ : ∃ L, L = toEg l := ⟨_, rfl⟩
  obtain ⟨N, hN⟩ : ∃ N, N = n.toNat := ⟨_, rfl⟩
  obtain ⟨M, hM⟩ : ∃ M, M = m.toNat := ⟨_, rfl⟩
  rw [← hLe, ← hN, ← hM] at ok
  obtain ⟨r1, r2⟩ := ok.row hl
  have hother : cnt M (fun y => decide ((matched N L).right y ≠ 0)) = sizeM (msOf n l) := by
    rw [ok.best.other, msOf, ← hLe, ← hN]
  have hans : sizeA n m l = ((cnt M (fun y => decide ((matched N L).right y ≠ 0)) : Int), 0) := by rw [sizeA, if_neg (fne h), hother]
  rw [hans]
  obtain ⟨f, hf⟩ : ∃ f, f = (matched N L).right := ⟨_, rfl⟩
  rw [← hf]
  have hM24 := ok.hM
  refine G.skip ?_
  refine G.seqC tfine rfl trivial ?_
  refine GO.callAns [.c (.r M 1 (elP f))] [800] rfl rfl rfl rfl ⟨rfl, rfl, rfl, trivial⟩ (fun args w => Try.call34 args w) (fun ρ w hs hok => ?_) ?_
  · have hr := hs.row (cap := c) rfl (hok _ (List.mem_cons_of_mem _ (List.mem_cons_of_mem _ List.mem_cons_self)))
    have := partners_any L A c N M ok.hN ok.hM (fun e he => by have := ok.mem e he; have := ok.hN; omega) (by have := ok.len; omega) w (ok.row hr).1
    rw [← r2, ← ok.hn, ← ok.hm, ← hf] at this
    exact this
  refine GO.fin tfine rfl trivial ?_
  refine G.seq (G.seqR tfine rfl trivial ?_)
  refine G.block (G.loop (fun z : Nat => St.of [(1, .v (.c (.k (I m)))), (8, .v (.c (.row 800 M w.heap.size))), (9, .v (.c (.k (I (cnt z fun y => decide (f y ≠ 0)))))), (10, .v (.c (.k (I z))))] [(800, .ro 1 M (elP f)), (850, .ro 0 0 fun _ => [])])
    (fun z => z ≤ M) (fun z => M - z) 0 (Nat.zero_le _) (St.le_of rfl ⟨⟨_, rfl, Blk.le_refl _⟩, ⟨_, rfl, Blk.le_refl _⟩, trivial⟩ ⟨rfl, rfl, rfl, rfl, trivial⟩) ?_)
  intro k hk
  have hmM := ok.hm
  refine G.seq (G.seqR tfine rfl trivial ?_)
  refine G.cond (b := decide ((k : Int) < m)) rfl (fun h2 => ?_) (fun h2 => ?_)
  rotate_left
  · have h2 := of_decide_eq_false h2
    have : k = M := by omega
    subst this
    refine G.exit ?_
    refine G.seqR tfine rfl trivial ?_
    exact G.ret (endK.ret rfl rfl)
  have h2 := of_decide_eq_true h2
  have hc := cnt_succ k fun y => decide (f y ≠ 0)
  have hle := cnt_le k fun y => decide (f y ≠ 0)
  refine G.skip ?_
  refine G.seq (G.block ?_)
  refine G.seqR tfine rfl ?_ ?_
  · simp [AllP]
    omega
  simp only [Int.toNat_natCast]
  refine G.cond (b := decide ((f k : Int) - 1 ≥ 0)) rfl (fun h3 => ?_) (fun h3 => ?_)
  · have h3 := of_decide_eq_true h3
    refine G.reg tfine rfl trivial ?_
    refine G.reg tfine rfl trivial ?_
    rw [IntWalk.i64_in ((k : Int) + 1) (by omega), IntWalk.i64_in (_ + 1) (by omega)]
    have e : ((cnt (k + 1) fun y => decide (f y ≠ 0) : Nat) : Int) = ((cnt k fun y => decide (f y ≠ 0) : Nat) : Int) + 1 := by
      rw [hc, if_pos (by simp; omega)]; rfl
    exact ⟨k + 1, (by omega), (by show M - (k + 1) < M - k; omega), St.le_of rfl ⟨⟨_, rfl, Blk.le_refl _⟩, ⟨_, rfl, Blk.le_refl _⟩, trivial⟩ ⟨rfl, rfl, by rw [e]; rfl, by simp [up, I], trivial⟩⟩
  · have h3 := of_decide_eq_false h3
    refine G.skip ?_
    refine G.reg tfine rfl trivial ?_
    rw [IntWalk.i64_in ((k : Int) + 1) (by omega)]
    exact ⟨k + 1, (by omega), (by show M - (k + 1) < M - k; omega), St.le_of rfl ⟨⟨_, rfl, Blk.le_refl _⟩, ⟨_, rfl, Blk.le_refl _⟩, trivial⟩ ⟨rfl, rfl, by rw [hc, if_neg (by simp; omega)]; rfl, by simp [up, I], trivial⟩⟩
end Go.Proofs.Ytnoejcejkdkaeaa
/- Chapter 37: the law MatchAlone. -/
set_option linter.unusedVariables false
set_option linter.unusedSimpArgs false
set_option maxRecDepth 8000
set_option maxHeartbeats 1000000
namespace Go.Proofs.Ytnoejcejkdkaeaa
open Go.Sx Go.RowKit Mt
/-! ### The plain law -/
theorem okay_nil {n m : Int} (hn : 0 ≤ n ∧ n ≤ 24) (hm : 0 ≤ m ∧ m ≤ 24) : checkM n m [] = 0 := by
  refine ok_check (N := n.toNat) (M := m.toNat) (L := []) ⟨by omega, by omega, by omega, by omega, rfl, by simp, fun e he => (by cases he), List.Pairwise.nil⟩
theorem size_nil {n m : Int} (h : checkM n m [] = 0) : sizeM (msOf n []) = 0 := by
  have ok := check_ok h
  have h1 : IsMax (toEg []) (sizeM (msOf n [])) := ok.best.max
  have h2 : IsMax (toEg []) 0 := ⟨⟨[], ⟨fun e he => (by cases he), List.Pairwise.nil, List.Pairwise.nil⟩, rfl⟩, [], [], fun e he => (by cases he), rfl⟩
  exact h1.unique h2
theorem match_nil {n m : Int} (h : checkM n m [] = 0) : (matchA n m []).1 = [] ∧ (matchA n m []).2.1 = [] ∧ (matchA n m []).2.2.1 = [] ∧ (matchA n m []).2.2.2 = 0 := by
  have ok := check_ok h
  have hs := size_nil h
  have hp := ok.best.pairs.2
  have hc := ok.best.cover.2
  have e : matchA n m [] = (pairsM (msOf n []), whereM (rcOf n []).a n.toNat false, whereM (rcOf n []).b m.toNat true, 0) := by rw [matchA, if_neg (by simp [h])]
  rw [e]
  have h1 : (pairsM (msOf n [])).length = sizeM (msOf n []) := hp
  have h2 : (whereM (rcOf n []).a n.toNat false).length + (whereM (rcOf n []).b m.toNat true).length = sizeM (msOf n []) := hc
  refine ⟨List.eq_nil_of_length_eq_zero (by show (pairsM (msOf n [])).length = 0; omega), List.eq_nil_of_length_eq_zero (by show (whereM (rcOf n []).a n.toNat false).length = 0; omega), List.eq_nil_of_length_eq_zero (by show (whereM (rcOf n []).b m.toNat true).length = 0; omega), rfl⟩
theorem lack_nil {n m : Int} (hn : 0 ≤ n) (h : checkM n m [] = 0) : ((lackA n m []).1.length : Int) = n ∧ (lackA n m []).2.1 = [] ∧ (((lackA n m []).2.2 == 0) = decide (n > 0)) := by
  have ok := check_ok h
  have hs := size_nil h
  have hl := ok.best.lack.2
  have hc := ok.best.cover.2
  by_cases h0 : n = 0
  · have e : lackA n m [] = ([], [], 7) := by rw [lackA, if_neg (by simp [h]), hs, if_pos (by simp [h0])]
    rw [e, h0]
    exact ⟨rfl, rfl, rfl⟩
  · have e : lackA n m [] = (whereM (rcOf n []).a n.toNat true, whereM (rcOf n []).b m.toNat true, 0) := by rw [lackA, if_neg (by simp [h]), hs, if_neg (by simp; omega)]
    rw [e]
    have h1 : (whereM (rcOf n []).a n.toNat true).length + sizeM (msOf n []) = n.toNat + (whereM (rcOf n []).b m.toNat true).length := hl
    have h2 : (whereM (rcOf n []).a n.toNat false).length + (whereM (rcOf n []).b m.toNat true).length = sizeM (msOf n []) := hc
    refine ⟨by simp only; omega, List.eq_nil_of_length_eq_zero (by simp only; omega), ?_⟩
    have : n > 0 := by omega
    simp [this]
/-- All edges between n and m numbers. -/
def full (n m : Nat) : List Eg := (List.range (n * m)).map fun k => (k / m, k % m)
theorem full_mem {n m : Nat} {e : Eg} (h : e ∈ full n m) : e.1 < n ∧ e.2 < m := by
  obtain ⟨k, hk, rfl⟩ := List.mem_map.1 h
  have hk := List.mem_range.1 hk
  have hm : 0 < m := by
    by_cases h0 : m = 0
    · subst h0; simp at hk
    · omega
  exact ⟨Nat.div_lt_of_lt_mul (by rw [Nat.mul_comm]; exact hk), Nat.mod_lt _ hm⟩
theorem mem_full {n m i j : Nat} (hi : i < n) (hj : j < m) : (i, j) ∈ full n m := by
  refine List.mem_map.2 ⟨i * m + j, List.mem_range.2 ?_, ?_⟩
  · have : (i + 1) * m ≤ n * m := Nat.mul_le_mul_right _ hi
    rw [Nat.succ_mul] at this
    omega
  · have h1 : (i * m + j) / m = i := by
      rw [Nat.mul_comm, Nat.mul_add_div (by omega), Nat.div_eq_of_lt hj, Nat.add_zero]
    have h2 : (i * m + j) % m = j := by
      rw [Nat.mul_comm, Nat.mul_add_mod, Nat.mod_eq_of_lt hj]
    simp only [h1, h2]
theorem full_up {n m : Nat} : (full n m).Pairwise lexlt := by
  unfold full
  rw [List.pairwise_map]
  refine List.Pairwise.imp ?_ List.pairwise_lt_range
  intro a b hab
  unfold lexlt
  by_cases hm : m = 0
  · subst hm; simp; exact hab
  have h1 : a / m ≤ b / m := Nat.div_le_div_right (by omega)
  have h2 := Nat.div_add_mod a m
  have h3 := Nat.div_add_mod b m
  by_cases e : a / m = b / m
  · refine .inr ⟨e, ?_⟩
    rw [e] at h2
    omega
  · exact .inl (by omega)
theorem full_ok {n m : Nat} (hn : n ≤ 15) (hm : m ≤ 15) : Okay (n : Int) (m : Int) (castL (full n m)) n m (full n m) := by
  refine ⟨rfl, rfl, by omega, by omega, rfl, ?_, fun e he => full_mem he, full_up⟩
  have : n * m ≤ 15 * 15 := Nat.mul_le_mul hn hm
  simp [full]
  omega
theorem full_max {n m : Nat} (h : n ≤ m) : IsMax (full n m) n ∧ IsMax (full m n) n := by
  constructor
  · refine ⟨⟨(List.range n).map fun i => (i, i), ⟨fun e he => ?_, ?_, ?_⟩, by simp⟩, List.range n, [], fun e he => .inl (List.mem_range.2 (full_mem he).1), by simp⟩
    · obtain ⟨i, hi, rfl⟩ := List.mem_map.1 he
      have := List.mem_range.1 hi
      exact mem_full this (by omega)
    · rw [List.map_map]; exact nodup_map List.nodup_range fun x _ y _ e => e
    · rw [List.map_map]; exact nodup_map List.nodup_range fun x _ y _ e => e
  · refine ⟨⟨(List.range n).map fun i => (i, i), ⟨fun e he => ?_, ?_, ?_⟩, by simp⟩, [], List.range n, fun e he => .inr (List.mem_range.2 (full_mem he).2), by simp⟩
    · obtain ⟨i, hi, rfl⟩ := List.mem_map.1 he
      have := List.mem_range.1 hi
      exact mem_full (by omega) this
    · rw [List.map_map]; exact nodup_map List.nodup_range fun x _ y _ e => e
    · rw [List.map_map]; exact nodup_map List.nodup_range fun x _ y _ e => e
theorem full_size {n m : Nat} (hn : n ≤ 15) (hm : m ≤ 15) : sizeA n m (castL (full n m)) = (if (m : Int) < (n : Int) then (m : Int) else (n : Int), 0) := by
  have hc := ok_check (full_ok hn hm)
  have ok := check_ok hc
  have h1 : IsMax (toEg (castL (full n m))) (sizeM (msOf n (castL (full n m)))) := ok.best.max
  rw [toEg_cast] at h1
  rw [sizeA, if_neg (by simp [hc])]
  by_cases h : m < n
  · rw [if_pos (by omega), h1.unique (full_max (show m ≤ n by omega)).2]
  · rw [if_neg (by omega), h1.unique (full_max (show n ≤ m by omega)).1]
/-! ### The walk -/
def elF (m k : Nat) : List Value := [I ((k / m : Nat) : Int), I ((k % m : Nat) : Int)]
theorem elF_eq {n m k : Nat} (hk : k < n * m) : elF m k = elE (castL (full n m)) k := by
  rw [elE_cast]
  simp only [elF, elG, full]
  rw [List.getD_eq_getElem?_getD, List.getElem?_map, List.getElem?_range hk]
  rfl
theorem MatchAlone_any (n m : Int) (w : World) : Calls Try.prog 3 #[.agg #[I n, I m]] w fun e w' => e = .returned (.bool true) ∧ Below w.heap.size w w' := by
  refine enterPlain tfine Try.func3 rfl 124 Try.ntmps3 [.agg [.k (I n), .k (I m)]] [] rfl rfl trivial ⟨⟨trivial, trivial, trivial⟩, trivial⟩ ?_
  refine G.seqR tfine rfl trivial ?_
  refine G.seq ?_
  refine G.seqC tfine rfl trivial ?_
  refine GO.callPlain (v := .bool true) rfl rfl rfl rfl (fun args w => Try.call10 args w) (fun ρ w hs hok => awake_any w) ?_
  refine GO.fin tfine rfl trivial ?_
  refine G.cond_false rfl ?_
  refine G.skip ?_
  refine G.seq ?_
  refine G.seqR tfine rfl ?_ ?_
  · first | trivial | (simp [AllP, condB]; done) | (simp only [AllP]; and_intros <;> first | trivial | decide | omega) | (simp [AllP, condB]; intros; and_intros <;> first | assumption | omega) | (simp [AllP, condB]; intros; simp_all; done) | (simp [AllP, condB]; intros; simp_all; omega) | (simp [AllP, condB]; omega)
  refine G.cond (b := ((decide (n < 0) || decide (m < 0)) || decide (n > 15)) || decide (m > 15)) rfl (fun h => ?_) (fun h => ?_)
  · refine G.seqR tfine rfl trivial ?_
    exact G.ret (endK.ret rfl rfl)
  simp at h
  have hc := okay_nil (n := n) (m := m) (by omega) (by omega)
  obtain ⟨p1, p2, p3, p4⟩ := match_nil hc
  obtain ⟨l1, l2, l3⟩ := lack_nil (by omega) hc
  obtain ⟨la, hla⟩ : ∃ la, la = (lackA n m []).1 := ⟨_, rfl⟩
  obtain ⟨le, hle⟩ : ∃ le, le = (lackA n m []).2.2 := ⟨_, rfl⟩
  rw [← hla] at l1
  rw [← hle] at l3
  refine G.skip ?_
  refine G.seqC tfine rfl trivial ?_
  refine GO.callAns [.agg [.r 0 2 (elG []), .r 0 1 (elW []), .r 0 1 (elW [])], .c (.p (I 0))] [800, 801, 802] rfl rfl rfl rfl ⟨rfl, rfl, rfl, rfl, rfl, rfl, rfl, rfl, rfl, trivial⟩ (fun args w => Try.call11 args w) (fun ρ w hs hok => ?_) ?_
  · have := Match_any n m none 0 [] w (RdRow.nil _ _ _ _) (by decide)
    rw [p1, p2, p3, p4] at this
    exact this
  refine GO.fin tfine rfl trivial ?_
  refine G.seqC tfine rfl trivial ?_
  refine GO.callAns [.c (.r la.length 1 (elW la)), .c (.r 0 1 (elW [])), .c (.p (I le))] [803, 804] rfl rfl rfl rfl ⟨rfl, rfl, rfl, rfl, rfl, rfl, trivial⟩ (fun args w => Try.call12 args w) (fun ρ w hs hok => ?_) ?_
  · have := Lack_any n m none 0 [] w (RdRow.nil _ _ _ _) (by decide)
    rw [l2, ← hla, ← hle] at this
    exact this
  refine GO.fin tfine rfl trivial ?_
  refine G.seq ?_
  refine G.seqR tfine rfl ?_ ?_
  · first | trivial | (simp [AllP, condB]; done) | (simp only [AllP]; and_intros <;> first | trivial | decide | omega) | (simp [AllP, condB]; intros; and_intros <;> first | assumption | omega) | (simp [AllP, condB]; intros; simp_all; done) | (simp [AllP, condB]; intros; simp_all; omega) | (simp [AllP, condB]; omega)
  refine G.cond (b := ((((((0 : Int) != 0) || decide (IntKind.i64.wrap (IntKind.i64.wrap ((0 : Nat) + (0 : Nat) : Int) + (0 : Nat)) > 0)) || ((la.length : Int) != n)) || decide (((0 : Nat) : Int) > 0)) || ((le == 0) != decide (n > 0)))) rfl (fun h2 => ?_) (fun h2 => ?_)
  · exfalso
    rw [l1, l3] at h2
    simp at h2
    revert h2
    decide
  refine G.skip ?_
  obtain ⟨N, rfl⟩ : ∃ N : Nat, n = (N : Int) := ⟨n.toNat, by omega⟩
  obtain ⟨M, rfl⟩ : ∃ M : Nat, m = (M : Int) := ⟨m.toNat, by omega⟩
  have hN : N ≤ 15 := by omega
  have hM : M ≤ 15 := by omega
  refine G.seqR tfine rfl trivial ?_
  refine G.newNil 101 2 (elF M) rfl ?_
  refine G.seq (G.seqR tfine rfl trivial ?_)
  refine G.block (G.loop (fun z : Nat × Nat => St.of [(1, .v (.c (.ptr 1 0 0 0))), (8, .v (.c (accV 101 2 (z.1 * M) z.2))), (87, .v (.c (.k (I N)))), (88, .v (.c (.k (I z.1))))] [(1, .var 23 [.k (I N), .k (I M)]), (101, accB 35 2 (z.1 * M) z.2 (elF M))])
    (fun z => z.1 ≤ N ∧ z.1 * M ≤ z.2) (fun z => N - z.1) (0, 0) ⟨Nat.zero_le _, by simp⟩ (St.le_of (by simp only [Nat.zero_mul]; rfl) ⟨⟨_, rfl, Blk.le_refl _⟩, ⟨_, rfl, by simp only [Nat.zero_mul]; exact Blk.le_refl _⟩, trivial⟩ ⟨rfl, by simp only [Nat.zero_mul]; rfl, rfl, rfl, trivial⟩) ?_)
  rintro ⟨i, cp⟩ ⟨hi, hcp⟩
  dsimp only at hi hcp ⊢
  refine G.seqR tfine rfl trivial ?_
  refine G.seq (G.cond (b := decide ((i : Int) < (N : Int))) rfl (fun h3 => ?_) (fun h3 => ?_))
  rotate_left
  · have h3 := of_decide_eq_false h3
    have : i = N := by omega
    subst this
    refine G.exit ?_
    have hfs := full_size hN hM
    have hlen : (castL (full i M)).length = i * M := by rw [castL_len]; simp [full]
    have hb : i * M ≤ 15 * 15 := Nat.mul_le_mul hN hM
    have hel : ∀ k, k < i * M → elF M k = elE (castL (full i M)) k := fun k hk => elF_eq hk
    obtain ⟨q, hq⟩ : ∃ q, q = i * M := ⟨_, rfl⟩
    rw [← hq] at hlen hb hel hcp ⊢
    rcases q with _ | q
    · refine G.seqC tfine rfl trivial ?_
      refine GO.callPlain (v := .tuple #[I (if (M : Int) < (i : Int) then (M : Int) else (i : Int)), I 0]) rfl rfl rfl rfl (fun args w => Try.call13 args w) (fun ρ w hs hok => ?_) ?_
      · have := Size_any (i : Int) (M : Int) none 0 (castL (full i M)) w (by
          rw [hlen]
          exact RdRow.nil _ _ _ _) (by rw [hlen]; omega)
        rw [hfs, hlen] at this
        exact this
      refine GO.fin tfine rfl trivial ?_
      refine G.seqR tfine rfl ?_ ?_
      · first | trivial | (simp [AllP, condB]; done) | (simp only [AllP]; and_intros <;> first | trivial | decide | omega) | (simp [AllP, condB]; intros; and_intros <;> first | assumption | omega) | (simp [AllP, condB]; intros; simp_all; done) | (simp [AllP, condB]; intros; simp_all; omega) | (simp [AllP, condB]; omega)
      refine G.ret (endK.ret rfl ?_)
      simp
    · refine G.seqC tfine rfl trivial ?_
      refine GO.callPlain (v := .tuple #[I (if (M : Int) < (i : Int) then (M : Int) else (i : Int)), I 0]) rfl rfl rfl rfl (fun args w => Try.call13 args w) (fun ρ w hs hok => ?_) ?_
      · have := Size_any (i : Int) (M : Int) (some ⟨(ρ 101).1, (ρ 101).2 + 0 * 2, none⟩) cp (castL (full i M)) w (by
          rw [hlen]
          exact RdRow.congr (hs.rdArr (x := 101) rfl 0 (q + 1) (by omega)) fun k hk => by rw [Nat.zero_add]; exact (hel k hk).symm) (by rw [hlen]; omega)
        rw [hfs, hlen] at this
        exact this
      refine GO.fin tfine rfl trivial ?_
      refine G.seqR tfine rfl ?_ ?_
      · first | trivial | (simp [AllP, condB]; done) | (simp only [AllP]; and_intros <;> first | trivial | decide | omega) | (simp [AllP, condB]; intros; and_intros <;> first | assumption | omega) | (simp [AllP, condB]; intros; simp_all; done) | (simp [AllP, condB]; intros; simp_all; omega) | (simp [AllP, condB]; omega)
      refine G.ret (endK.ret rfl ?_)
      simp
  have h3 := of_decide_eq_true h3
  have hb : i * M + M ≤ 15 * 15 := by
    have : (i + 1) * M ≤ 15 * 15 := Nat.mul_le_mul (by omega) hM
    rwa [Nat.succ_mul] at this
  refine G.skip ?_
  refine G.seq (G.block ?_)
  refine G.seqR tfine rfl trivial ?_
  refine G.seqR tfine rfl trivial ?_
  refine G.block (G.loop (fun z : Nat × Nat => St.of [(1, .v (.c (.ptr 1 0 0 0))), (8, .v (.c (accV 101 2 (i * M + z.1) z.2))), (9, .v (.c (.k (I i)))), (87, .v (.c (.k (I N)))), (88, .v (.c (.k (I i)))), (92, .v (.c (.k (I M)))), (93, .v (.c (.k (I z.1))))] [(1, .var 23 [.k (I N), .k (I M)]), (101, accB 35 2 (i * M + z.1) z.2 (elF M))])
    (fun z => z.1 ≤ M ∧ i * M + z.1 ≤ z.2) (fun z => M - z.1) (0, cp) ⟨Nat.zero_le _, hcp⟩ (St.le_of (by simp only [Nat.add_zero]; generalize i * M = q; cases q <;> rfl) ⟨⟨_, rfl, Blk.le_refl _⟩, ⟨_, rfl, Blk.le_refl _⟩, trivial⟩ ⟨rfl, rfl, rfl, rfl, rfl, rfl, rfl, trivial⟩) ?_)
  rintro ⟨j, cq⟩ ⟨hj, hcq⟩
  dsimp only at hj hcq ⊢
  refine G.seqR tfine rfl trivial ?_
  refine G.seq (G.cond (b := decide ((j : Int) < (M : Int))) rfl (fun h4 => ?_) (fun h4 => ?_))
  rotate_left
  · have h4 := of_decide_eq_false h4
    have : j = M := by omega
    subst this
    refine G.exit ?_
    refine G.reg tfine rfl trivial ?_
    rw [IntWalk.i64_in ((i : Int) + 1) (by omega)]
    have e : (i + 1) * j = i * j + j := Nat.succ_mul i j
    refine ⟨(i + 1, cq), ⟨by simp only; omega, by simp only [e]; exact hcq⟩, (by show N - (i + 1) < N - i; omega), ?_⟩
    simp only [e]
    exact St.le_of (by generalize i * j + j = q; cases q <;> rfl) ⟨⟨_, rfl, Blk.le_refl _⟩, ⟨_, rfl, Blk.le_refl _⟩, trivial⟩ ⟨rfl, rfl, rfl, by simp [up, I], trivial⟩
  have h4 := of_decide_eq_true h4
  have hjM : j < M := by omega
  have d1 : (i * M + j) / M = i := by rw [Nat.mul_comm, Nat.mul_add_div (by omega), Nat.div_eq_of_lt hjM, Nat.add_zero]
  have d2 : (i * M + j) % M = j := by rw [Nat.mul_comm, Nat.mul_add_mod, Nat.mod_eq_of_lt hjM]
  refine G.skip ?_
  refine G.seq (G.block ?_)
  refine G.seqR tfine rfl trivial ?_
  refine G.region_lit ?_
  refine GO.moveAny tfine rfl (.inl rfl) rfl rfl rfl ?_
  refine GO.more tfine rfl trivial ?_
  refine GO.appendAccB (n := i * M + j) (c := cq) (el := elF M) [I i, I j] [(1, .v (.c (.ptr 1 0 0 0))), (9, .v (.c (.k (I i)))), (87, .v (.c (.k (I N)))), (88, .v (.c (.k (I i)))), (92, .v (.c (.k (I M)))), (93, .v (.c (.k (I j))))] [(1, .var 23 [.k (I N), .k (I M)])] apE rfl rfl rfl rfl rfl rfl rfl rfl rfl rfl (fun u hu => by simp at hu; rcases hu with rfl | rfl <;> rfl)
    (St.le_of rfl ⟨⟨_, rfl, Blk.le_refl _⟩, trivial⟩ ⟨rfl, rfl, rfl, rfl, rfl, rfl, trivial⟩) (subM.fr ⟨rfl, nx rfl, trivial⟩) (fun k hk => rfl) (by unfold maxLen; omega) (by omega) fun c' hc' => ?_
  refine GO.fin tfine rfl trivial ?_
  refine G.reg tfine rfl trivial ?_
  rw [IntWalk.i64_in ((j : Int) + 1) (by omega)]
  refine ⟨(j + 1, c'), ⟨by simp only; omega, by simp only; omega⟩, (by show M - (j + 1) < M - j; omega), St.le_of rfl ⟨⟨_, rfl, Blk.le_refl _⟩, ⟨_, rfl, rfl, rfl, Nat.le_refl _, fun k hk => ?_, Nat.le_refl _⟩, trivial⟩ ⟨rfl, rfl, rfl, rfl, rfl, rfl, by simp [up, I], trivial⟩⟩
  have hk' : k < i * M + j + 1 := hk
  by_cases e : k = i * M + j
  · subst e
    rw [elN_eq]
    simp only [elF, d1, d2]
  · rw [elN_lt (by omega)]
end Go.Proofs.Ytnoejcejkdkaeaa
/- Openers of arguments for the rows: arrays of two and of three whole numbers. -/
set_option linter.unusedVariables false
set_option linter.unusedSimpArgs false
namespace Go.Sx
open Go.ChangeShapes Go.WideShapes Go.WideMaps
section
variable {H : Type} {enc : TypeId × Value → H} {P : Program} {k e : TypeId} {q : IntKind} {W : World} {base : Nat} {sp : Nat → Bool} {held : Bool}
theorem open_arr2 (A : ArrKey P k e 2) (he : P.underlying e = some (.int q)) {r : Reach} {b0 : Nat} {v : Value} {d : DataW H} {ps : List MemPlace} (hval : Value.okWide P W r b0 k v) (hd : DataW.Trod enc P W base sp held k v d ps) :
    ∃ a b : Int, v = .agg #[.int q a, .int q b] ∧ d = .agg [.lit (.int q a), .lit (.int q b)] ∧ ps = [] ∧ (Lit.int q a).wf = true ∧ (Lit.int q b).wf = true := open_pair A he hval hd
theorem shut_arr2 (A : ArrKey P k e 2) (he : P.underlying e = some (.int q)) {a b : Int} (wa : (Lit.int q a).wf = true) (wb : (Lit.int q b).wf = true) :
    DataW.Trod enc P W base sp held k (.agg #[.int q a, .int q b]) (.agg [.lit (.int q a), .lit (.int q b)]) [] := shut_pair A he wa wb
theorem okWide_three (A : ArrKey P k e 3) {r : Reach} {b0 : Nat} {v : Value} (h : Value.okWide P W r b0 k v) : ∃ c0 c1 c2, v = .agg #[c0, c1, c2] := by
  simp only [Value.okWide, A.hu] at h
  obtain ⟨cs, h1, h2, _⟩ := h
  rw [A.size] at h2
  obtain ⟨l⟩ := cs
  match l, h2 with
  | [c0, c1, c2], _ => exact ⟨c0, c1, c2, h1⟩
theorem open_arr3 (A : ArrKey P k e 3) (he : P.underlying e = some (.int q)) {r : Reach} {b0 : Nat} {v : Value} {d : DataW H} {ps : List MemPlace} (hval : Value.okWide P W r b0 k v) (hd : DataW.Trod enc P W base sp held k v d ps) :
    ∃ a b c : Int, v = .agg #[.int q a, .int q b, .int q c] ∧ d = .agg [.lit (.int q a), .lit (.int q b), .lit (.int q c)] ∧ ps = [] ∧ (Lit.int q a).wf = true ∧ (Lit.int q b).wf = true ∧ (Lit.int q c).wf = true := by
  obtain ⟨c0, c1, c2, rfl⟩ := okWide_three A hval
  obtain ⟨fuel, hf⟩ := hd
  cases fuel with
  | zero => simp [DataW.trod] at hf
  | succ n =>
    rw [DataW.trod_step] at hf
    unfold DataW.trodStep at hf
    simp only [A.hu, Value.cells] at hf
    rw [if_pos (by rw [A.size]; rfl)] at hf
    simp only [Option.map_eq_some_iff] at hf
    obtain ⟨xs, hx, e1⟩ := hf
    rw [show List.range 3 = [0, 1, 2] from rfl, List.mapM_cons, List.mapM_cons, List.mapM_cons, List.mapM_nil] at hx
    simp only [bind, Option.bind_eq_some_iff, pure, Option.some.injEq, A.one] at hx
    obtain ⟨y0, h0, _, ⟨y1, h1, _, ⟨y2, h2, _, rfl, rfl⟩, rfl⟩, rfl⟩ := hx
    obtain ⟨a, ea, rfl, wa⟩ := DataW.trod_int he h0
    obtain ⟨b, eb, rfl, wb⟩ := DataW.trod_int he h1
    obtain ⟨c, ec, rfl, wc⟩ := DataW.trod_int he h2
    simp at ea eb ec
    subst ea; subst eb; subst ec
    simp only [Prod.mk.injEq] at e1
    exact ⟨a, b, c, rfl, by rw [← e1.1]; rfl, by rw [← e1.2]; rfl, wa, wb, wc⟩
theorem shut_arr3 (A : ArrKey P k e 3) (he : P.underlying e = some (.int q)) {a b c : Int} (wa : (Lit.int q a).wf = true) (wb : (Lit.int q b).wf = true) (wc : (Lit.int q c).wf = true) :
    DataW.Trod enc P W base sp held k (.agg #[.int q a, .int q b, .int q c]) (.agg [.lit (.int q a), .lit (.int q b), .lit (.int q c)]) [] :=
  ⟨2, by
    show DataW.trod enc P W base sp held (1 + 1) k [.int q a, .int q b, .int q c] = _
    rw [DataW.trod_step]
    unfold DataW.trodStep
    simp only [A.hu]
    rw [if_pos (by rw [A.size]; rfl), show List.range 3 = [0, 1, 2] from rfl, List.mapM_cons, List.mapM_cons, List.mapM_cons, List.mapM_nil]
    simp [A.one, DataW.trod, he, wa, wb, wc]⟩
end
open Go.RowKit
/-- What the seat's rows tell of a slice of whole numbers, as the executor takes it. -/
theorem rowI {k : IntKind} {w : World} {a : Option Addr} {len cap : Nat} {zs : List Int} (h : (a = none ∧ len = 0 ∧ cap = 0 ∧ zs = []) ∨ ∃ x, a = some x ∧ len ≤ cap ∧ cap ≤ maxLen ∧ zs.length = cap ∧ (∀ i, i < zs.length → w.cell? (x.add i) = some (.int k (zs.getD i 0))) ∧ ∀ n ∈ zs, (Lit.int k n).wf = true) :
    ∃ l : List Int, len = l.length ∧ RdRow w a l.length 1 (fun i => [.int k (l.getD i 0)]) ∧ l.length ≤ maxLen ∧ (∀ n ∈ l, (Lit.int k n).wf = true) ∧ (a = none → l.length = 0) := by
  rcases h with ⟨rfl, rfl, rfl, rfl⟩ | ⟨x, rfl, h1, h2, h3, h4, h5⟩
  · exact ⟨[], rfl, RdRow.nil _ _ _ _, by simp, by simp, fun _ => rfl⟩
  · have hl : (zs.take len).length = len := by simp; omega
    refine ⟨zs.take len, hl.symm, ?_, by omega, fun n hn => h5 n (List.mem_of_mem_take hn), fun h => by cases h⟩
    intro h0
    have hspot : x.spot = none := by
      have := h4 0 (by omega)
      rw [show x.add 0 = x from rfl] at this
      unfold World.cell? at this
      split at this
      · split at this
        · cases this
        · rename_i hn
          cases hs : x.spot with
          | none => rfl
          | some _ => rw [hs] at hn; exact absurd rfl hn
      · cases this
    obtain ⟨b, o, sp⟩ := x
    simp only at hspot
    subst hspot
    refine ⟨b, o, rfl, ?_, fun i hi => ⟨rfl, fun j hj => ?_⟩⟩
    · have := h4 0 (by omega)
      rw [show (⟨b, o, none⟩ : Addr).add 0 = ⟨b, o, none⟩ from rfl] at this
      unfold World.cell? at this
      split at this
      · rename_i hh
        exact (Array.getElem?_eq_some_iff.1 hh).1
      · cases this
    · have hj : j = 0 := by omega
      subst hj
      have := h4 i (by omega)
      rw [Addr.add_lit] at this
      rw [show o + (i * 1 + 0) = o + i by omega, this]
      have hi' : i < len := by omega
      simp [List.getD_eq_getElem?_getD, hi']
end Go.Sx
/- Part U: what the arguments of a row hold, cell by cell. Generic over P. -/
set_option linter.unusedVariables false
set_option linter.unusedSimpArgs false
namespace Go.Sx
open Go.ChangeShapes Go.WideShapes Go.RowKit
inductive Leaf where
  | int (k : IntKind) | bool | str | row (size : Nat) (ls : List Leaf)
def LeafAll (p : Leaf → Value → Prop) : List Leaf → List Value → Prop
  | [], [] => True
  | l :: ls, c :: cs => p l c ∧ LeafAll p ls cs
  | _, _ => False
def Leaf.says (w : World) : Nat → Leaf → Value → Prop
  | 0, _, _ => True
  | _ + 1, .int k, c => ∃ z, c = .int k z ∧ (Lit.int k z).wf = true
  | _ + 1, .bool, c => ∃ b, c = .bool b
  | _ + 1, .str, c => ∃ s : ByteArray, c = .string s ∧ s.size ≤ maxLen
  | d + 1, .row size ls, c => ∃ a len cap, c = .slice a len cap ∧ (a = none → len = 0) ∧ len ≤ maxLen ∧ ∃ ess : List (List Value), ess.length = len ∧ RdRow w a len size (fun i => ess.getD i []) ∧ ∀ es ∈ ess, LeafAll (Leaf.says w d) ls es
theorem LeafAll.nil {p : Leaf → Value → Prop} {cs : List Value} (h : LeafAll p [] cs) : cs = [] := by
  cases cs with
  | nil => rfl
  | cons _ _ => exact h.elim
theorem LeafAll.cons {p : Leaf → Value → Prop} {l : Leaf} {ls : List Leaf} {cs : List Value} (h : LeafAll p (l :: ls) cs) : ∃ c r, cs = c :: r ∧ p l c ∧ LeafAll p ls r := by
  cases cs with
  | nil => exact h.elim
  | cons c r => exact ⟨c, r, rfl, h.1, h.2⟩
theorem LeafAll.append {p : Leaf → Value → Prop} {l1 l2 : List Leaf} {c1 c2 : List Value} (h1 : LeafAll p l1 c1) (h2 : LeafAll p l2 c2) : LeafAll p (l1 ++ l2) (c1 ++ c2) := by
  induction l1 generalizing c1 with
  | nil => rw [h1.nil]; exact h2
  | cons l ls ih =>
    obtain ⟨c, r, rfl, h3, h4⟩ := h1.cons
    exact ⟨h3, ih h4⟩
theorem LeafAll.len {p : Leaf → Value → Prop} {ls : List Leaf} {cs : List Value} (h : LeafAll p ls cs) : cs.length = ls.length := by
  induction ls generalizing cs with
  | nil => rw [h.nil]; rfl
  | cons l ls ih =>
    obtain ⟨c, r, rfl, h3, h4⟩ := h.cons
    simp [ih h4]
def leavesF (g : TypeId → Option (List Leaf)) (cells : TypeId → Nat) : Nat → List Field → Option (List Leaf)
  | _, [] => some []
  | i, f :: fs => match g f.type with
    | some l => bif Nat.beq f.offset i && Nat.beq l.length (cells f.type) then (leavesF g cells (i + l.length) fs).map (l ++ ·) else none
    | none => none
def leaves (P : Program) : Nat → TypeId → Option (List Leaf)
  | 0, _ => none
  | n + 1, t => match P.underlying t with
    | some (.int k) => some [.int k]
    | some .bool => some [.bool]
    | some .string => some [.str]
    | some (.slice e) => match leaves P n e with
      | some ls => bif Nat.blt 0 (P.cellsOf e) && Nat.beq ls.length (P.cellsOf e) then some [.row (P.cellsOf e) ls] else none
      | none => none
    | some (.struct fs) => match leavesF (leaves P n) P.cellsOf 0 fs.toList with
      | some ls => bif Nat.beq ls.length (P.cellsOf t) then some ls else none
      | none => none
    | some (.array m e) => match leaves P n e with
      | some ls => bif Nat.beq ls.length (P.cellsOf e) && Nat.beq (m * ls.length) (P.cellsOf t) then some (List.replicate m ls).flatten else none
      | none => none
    | _ => none
theorem mapM_each {α β : Type} {f : α → Option β} {l : List α} {ys : List β} (h : l.mapM f = some ys) : ∀ a ∈ l, ∃ y, f a = some y := by
  induction l generalizing ys with
  | nil => simp
  | cons a r ih =>
    rw [List.mapM_cons] at h
    simp only [bind, Option.bind_eq_some_iff, pure, Option.some.injEq] at h
    obtain ⟨y, hy, zs, hz, _⟩ := h
    intro b hb
    cases hb with
    | head => exact ⟨y, hy⟩
    | tail _ hb => exact ih hz b hb
theorem leavesF_all {p : Leaf → Value → Prop} {g : TypeId → Option (List Leaf)} {cells : TypeId → Nat} {cs : List Value} : ∀ (fs : List Field) (i : Nat) (ls : List Leaf), leavesF g cells i fs = some ls →
    (∀ f ∈ fs, ∀ l, g f.type = some l → LeafAll p l ((cs.drop f.offset).take (cells f.type))) → i + ls.length = cs.length → LeafAll p ls (cs.drop i)
  | [], i, ls, h, _, hl => by
    injection h with h
    subst h
    rw [List.drop_of_length_le (by simp at hl; omega)]
    trivial
  | f :: fs, i, ls, h, hf, hl => by
    unfold leavesF at h
    split at h
    · rename_i l hg
      cases hc : (Nat.beq f.offset i && Nat.beq l.length (cells f.type)) with
      | false => rw [hc] at h; cases h
      | true =>
        rw [hc] at h
        simp only [cond_true, Option.map_eq_some_iff] at h
        obtain ⟨r, hr, rfl⟩ := h
        rw [Bool.and_eq_true] at hc
        have h1 := Nat.eq_of_beq_eq_true hc.1
        have h2 := Nat.eq_of_beq_eq_true hc.2
        have h3 := hf f (by simp) l hg
        rw [h1, ← h2] at h3
        have h4 := leavesF_all fs (i + l.length) r hr (fun f' hm => hf f' (by simp [hm])) (by simp at hl; omega)
        have := h3.append h4
        rwa [← List.drop_drop, List.take_append_drop] at this
    · cases h
theorem replicate_all {p : Leaf → Value → Prop} {l : List Leaf} : ∀ (m : Nat) (cs : List Value), cs.length = m * l.length → (∀ j, j < m → LeafAll p l ((cs.drop (j * l.length)).take l.length)) → LeafAll p (List.replicate m l).flatten cs
  | 0, cs, hl, _ => by
    have : cs = [] := by simpa using hl
    subst this
    trivial
  | m + 1, cs, hl, h => by
    have h0 := h 0 (by omega)
    rw [Nat.zero_mul, List.drop_zero] at h0
    have h1 := replicate_all (l := l) (p := p) m (cs.drop l.length) (by rw [List.length_drop, hl, Nat.add_mul]; omega) fun j hj => by
      have := h (j + 1) (by omega)
      rw [List.drop_drop]
      rwa [show l.length + j * l.length = (j + 1) * l.length by rw [Nat.add_mul]; omega]
    have := h0.append h1
    rw [List.take_append_drop] at this
    rw [List.replicate_succ, List.flatten_cons]
    exact this
section
variable {H : Type} {enc : TypeId × Value → H} {P : Program} {w : World} {sp : Nat → Bool} {held : Bool}
theorem row_spot {x : Addr} {v : Value} (h : w.cell? x = some v) : x.spot = none ∧ x.block < w.heap.size := by
  unfold World.cell? at h
  split at h
  · rename_i hh
    split at h
    · cases h
    · rename_i hn
      refine ⟨?_, (Array.getElem?_eq_some_iff.1 hh).1⟩
      cases hs : x.spot with
      | none => rfl
      | some _ => rw [hs] at hn; exact absurd rfl hn
  · cases h
theorem trod_leaves : ∀ (fuel : Nat) (t : TypeId) (cs : List Value) (x : DataW H × List MemPlace), DataW.trod enc P w 0 sp held fuel t cs = some x → ∀ n ls, leaves P n t = some ls → ∀ d, LeafAll (Leaf.says w d) ls cs := by
  intro fuel
  induction fuel with
  | zero => intro t cs x h; simp [DataW.trod] at h
  | succ fuel ih =>
    intro t cs x h n ls hl d
    cases n with
    | zero => cases hl
    | succ n =>
      unfold leaves at hl
      split at hl
      · rename_i k hu
        obtain ⟨z, rfl, _, hw⟩ := DataW.trod_int hu h
        injection hl with hl
        subst hl
        cases d with
        | zero => exact ⟨trivial, trivial⟩
        | succ d => exact ⟨⟨z, rfl, hw⟩, trivial⟩
      · rename_i hu
        obtain ⟨b, rfl, _⟩ := DataW.trod_bool hu h
        injection hl with hl
        subst hl
        cases d with
        | zero => exact ⟨trivial, trivial⟩
        | succ d => exact ⟨⟨b, rfl⟩, trivial⟩
      · rename_i hu
        obtain ⟨s, rfl, _, hs⟩ := DataW.trod_string hu h
        injection hl with hl
        subst hl
        cases d with
        | zero => exact ⟨trivial, trivial⟩
        | succ d => exact ⟨⟨s, rfl, hs⟩, trivial⟩
      · rename_i e hu
        split at hl
        · rename_i le hle
          cases hc : (Nat.blt 0 (P.cellsOf e) && Nat.beq le.length (P.cellsOf e)) with
          | false => rw [hc] at hl; cases hl
          | true =>
            rw [hc] at hl
            injection hl with hl
            subst hl
            rw [Bool.and_eq_true] at hc
            have hpos : 0 < P.cellsOf e := by simpa [Nat.blt_eq] using hc.1
            rcases DataW.trod_slice hu h with ⟨rfl, _⟩ | ⟨a, len, cap, elems, rest, n', hn', rfl, _, _, hlc, hcm, hlen, hel, _, _⟩
            · cases d with
              | zero => exact ⟨trivial, trivial⟩
              | succ d => exact ⟨⟨none, 0, 0, rfl, fun _ => rfl, by decide, [], rfl, fun h => absurd h (by decide), by simp⟩, trivial⟩
            · cases d with
              | zero => exact ⟨trivial, trivial⟩
              | succ d =>
                injection hn' with hn'
                subst hn'
                have each : ∀ i, i < len → ∃ es, w.cells? 0 (a.add (i * P.cellsOf e)) (P.cellsOf e) = some es ∧ LeafAll (Leaf.says w d) le es := by
                  intro i hi
                  have := hel i hi
                  rw [List.getElem?_eq_getElem (by omega), Option.bind_eq_some_iff] at this
                  obtain ⟨es, h1, h2⟩ := this
                  exact ⟨es, h1, ih e es _ h2 n le hle d⟩
                have : ∃ ess : List (List Value), ess.length = len ∧ ∀ i, i < len → w.cells? 0 (a.add (i * P.cellsOf e)) (P.cellsOf e) = some (ess.getD i []) ∧ LeafAll (Leaf.says w d) le (ess.getD i []) := by
                  refine ⟨(List.range len).map fun i => if hi : i < len then (each i hi).choose else [], by simp, fun i hi => ?_⟩
                  rw [List.getD_eq_getElem?_getD, List.getElem?_map, List.getElem?_range hi]
                  simp only [Option.map_some, Option.getD_some, dif_pos hi]
                  exact (each i hi).choose_spec
                obtain ⟨ess, hsl, hs⟩ := this
                refine ⟨⟨some a, len, cap, rfl, (fun h => by cases h), by omega, ess, hsl, fun h0 => ?_, fun es hm => ?_⟩, trivial⟩
                · have cell : ∀ i, i < len → (ess.getD i []).length = P.cellsOf e ∧ ∀ j, j < P.cellsOf e → w.cell? (a.add (i * P.cellsOf e + j)) = (ess.getD i [])[j]? := by
                    intro i hi
                    have h3 := World.cells?_some (hs i hi).1
                    refine ⟨h3.2.1, fun j hj => ?_⟩
                    have := h3.2.2 j hj
                    rwa [Addr.add_add] at this
                  have h00 := (cell 0 h0).2 0 hpos
                  have hlen0 := (cell 0 h0).1
                  rw [List.getElem?_eq_getElem (by omega), Nat.zero_mul, Nat.add_zero, show a.add 0 = a from rfl] at h00
                  have hsp := row_spot h00
                  obtain ⟨b, o, s⟩ := a
                  have hs0 : s = none := hsp.1
                  subst hs0
                  refine ⟨b, o, rfl, hsp.2, fun i hi => ⟨(cell i hi).1, fun j hj => ?_⟩⟩
                  have := (cell i hi).2 j hj
                  rwa [Addr.add_lit] at this
                · obtain ⟨i, hi, rfl⟩ := List.mem_iff_getElem.1 hm
                  have := (hs i (by omega)).2
                  rwa [List.getD_eq_getElem?_getD, List.getElem?_eq_getElem hi] at this
        · cases hl
      · rename_i fs hu
        split at hl
        · rename_i lf hlf
          cases hc : Nat.beq lf.length (P.cellsOf t) with
          | false => rw [hc] at hl; cases hl
          | true =>
            rw [hc] at hl
            injection hl with hl
            subst hl
            have hcl := Nat.eq_of_beq_eq_true hc
            rw [DataW.trod_step] at h
            unfold DataW.trodStep at h
            simp only [hu] at h
            split at h
            · rename_i hlen
              simp only [Option.map_eq_some_iff] at h
              obtain ⟨ys, hys, _⟩ := h
              have := leavesF_all (p := Leaf.says w d) (cs := cs) fs.toList 0 lf hlf (fun f hf l hg => by
                obtain ⟨y, hy⟩ := mapM_each hys f hf
                exact ih f.type _ y hy n l hg d) (by omega)
              simpa using this
            · cases h
        · cases hl
      · rename_i m e hu
        split at hl
        · rename_i le hle
          cases hc : (Nat.beq le.length (P.cellsOf e) && Nat.beq (m * le.length) (P.cellsOf t)) with
          | false => rw [hc] at hl; cases hl
          | true =>
            rw [hc] at hl
            injection hl with hl
            subst hl
            rw [Bool.and_eq_true] at hc
            have h1 := Nat.eq_of_beq_eq_true hc.1
            have h2 := Nat.eq_of_beq_eq_true hc.2
            rw [DataW.trod_step] at h
            unfold DataW.trodStep at h
            simp only [hu] at h
            split at h
            · rename_i hlen
              simp only [Option.map_eq_some_iff] at h
              obtain ⟨ys, hys, _⟩ := h
              refine replicate_all m cs (by omega) fun j hj => ?_
              obtain ⟨y, hy⟩ := mapM_each hys j (List.mem_range.2 hj)
              rw [← h1] at hy
              exact ih e _ y hy n le hle d
            · cases h
        · cases hl
      · cases hl
/-- The cells of an argument. -/
theorem open_leaves {t : TypeId} {v : Value} {dd : DataW H} {ps : List MemPlace} (h : DataW.Trod enc P w 0 sp held t v dd ps) (n : Nat) {ls : List Leaf} (hl : leaves P n t = some ls) (d : Nat) : LeafAll (Leaf.says w d) ls v.cells.toList := by
  obtain ⟨fuel, hf⟩ := h
  exact trod_leaves fuel t _ _ hf n ls hl d
end
/-- An argument that is a struct or an array is an aggregate. -/
theorem okWide_agg {P : Program} {w : World} {r : Reach} {b0 : Nat} {t : TypeId} {v : Value} (h : Value.okWide P w r b0 t v) (ha : (match P.underlying t with | some (.struct _) => true | some (.array _ _) => true | _ => false) = true) : ∃ cs, v = .agg cs := by
  unfold Value.okWide at h
  split at h
  · exact ⟨_, h.choose_spec.1⟩
  · exact ⟨_, h.choose_spec.1⟩
  · rename_i h1 h2
    split at ha
    · rename_i fs hu; exact absurd hu (h1 fs)
    · rename_i m e hu; exact absurd hu (h2 m e)
    · cases ha
end Go.Sx
/- Chapter 37: the laws MatchSizes and MatchTurned. -/
set_option linter.unusedVariables false
set_option linter.unusedSimpArgs false
set_option maxRecDepth 8000
set_option maxHeartbeats 1000000
namespace Go.Proofs.Ytnoejcejkdkaeaa
open Go.Sx Go.RowKit Mt
def fewB (l : List EI) : Bool := decide ((l.length : Int) ≤ 40) || ((l.length : Int) == 257)
theorem few_any (A : Option Addr) (c : Nat) (l : List EI) (w : World) (hl : RdRow w A l.length 2 (elE l)) : Calls Try.prog 14 #[.slice A l.length c] w fun e w' => e = .returned (.bool (fewB l)) ∧ Below w.heap.size w w' := by
  refine enterPlain tfine Try.func14 rfl 11 Try.ntmps14 [.c (.inp 1000 A l.length c)] [⟨1000, A, 2, l.length, elE l⟩] rfl rfl ⟨hl, trivial⟩ ⟨.inl ⟨rfl, rfl, rfl⟩, trivial⟩ ?_
  refine G.seqR tfine rfl trivial ?_
  refine G.seqR tfine rfl ?_ ?_
  · first | trivial | (simp [AllP, condB]; done) | (simp only [AllP]; and_intros <;> first | trivial | decide | omega) | (simp [AllP, condB]; intros; and_intros <;> first | assumption | omega) | (simp [AllP, condB]; intros; simp_all; done) | (simp [AllP, condB]; intros; simp_all; omega) | (simp [AllP, condB]; omega)
  exact G.ret (endK.ret rfl rfl)
theorem cloneEI_any (A : Option Addr) (c : Nat) (l : List EI) (w : World) (hl : RdRow w A l.length 2 (elE l)) (hm : l.length ≤ 1000000) :
    Calls Try.prog 15 #[.slice A l.length c] w fun e w' => Ans w w' [.c (.r l.length 2 (elE l))] e ∧ Below w.heap.size w w' :=
  cloneE_any A c l.length (elE l) w hl (fun i hi => rfl) (fun i hi u hu => by simp [elE] at hu; rcases hu with rfl | rfl <;> rfl) hm
theorem MatchSizes_any (n m : Int) (A : Option Addr) (c : Nat) (l : List EI) (w : World) (hl : RdRow w A l.length 2 (elE l)) :
    Calls Try.prog 4 #[I n, I m, .slice A l.length c] w fun e w' => e = .returned (.bool true) ∧ Below w.heap.size w w' := by
  refine enterPlain tfine Try.func4 rfl 51 Try.ntmps4 [.c (.k (I n)), .c (.k (I m)), .c (.inp 1000 A l.length c)] [⟨1000, A, 2, l.length, elE l⟩] rfl rfl ⟨hl, trivial⟩ ⟨trivial, trivial, .inl ⟨rfl, rfl, rfl⟩, trivial⟩ ?_
  refine G.seqR tfine rfl trivial ?_
  refine G.seq ?_
  refine G.seqC tfine rfl trivial ?_
  refine GO.callPlain (v := .bool true) rfl rfl rfl rfl (fun args w => Try.call10 args w) (fun ρ w hs hok => awake_any w) ?_
  refine GO.fin tfine rfl trivial ?_
  refine G.cond_false rfl ?_
  refine G.skip ?_
  refine G.seq ?_
  refine G.seqC tfine rfl trivial ?_
  refine GO.callPlain (v := .bool (fewB l)) rfl rfl rfl rfl (fun args w => Try.call14 args w) (fun ρ w hs hok => few_any A c l w (hs.row (cap := c) rfl (hok _ List.mem_cons_self))) ?_
  refine GO.fin tfine rfl trivial ?_
  refine G.cond (b := !(fewB l)) rfl (fun h => ?_) (fun h => ?_)
  · refine G.seqR tfine rfl trivial ?_
    exact G.ret (endK.ret rfl rfl)
  have hm : l.length ≤ 1000000 := by simp [fewB] at h; omega
  refine G.skip ?_
  refine G.seqC tfine rfl trivial ?_
  refine GO.callAns [.c (.r l.length 2 (elE l))] [800] rfl rfl rfl rfl ⟨rfl, rfl, rfl, trivial⟩ (fun args w => Try.call15 args w) (fun ρ w hs hok => cloneEI_any A c l w (hs.row (cap := c) rfl (hok _ List.mem_cons_self)) hm) ?_
  refine GO.callPlain (v := .tuple #[I (sizeA n m l).1, I (sizeA n m l).2]) rfl rfl rfl rfl (fun args w => Try.call13 args w) (fun ρ w hs hok => Size_any n m _ _ l w (hs.rowR rfl (hok _ (List.mem_cons_of_mem _ (List.mem_cons_of_mem _ List.mem_cons_self))) (Nat.le_refl _)) hm) ?_
  refine GO.fin tfine rfl trivial ?_
  refine G.seqC tfine rfl trivial ?_
  refine GO.callPlain (v := .tuple #[I (sizeA n m l).1, I (sizeA n m l).2]) rfl rfl rfl rfl (fun args w => Try.call16 args w) (fun ρ w hs hok => refSize_any n m A c l w (hs.row (cap := c) rfl (hok _ (List.mem_cons_of_mem _ (List.mem_cons_of_mem _ List.mem_cons_self)))) hm) ?_
  refine GO.fin tfine rfl trivial ?_
  refine G.seqC tfine rfl trivial ?_
  refine GO.callAns [.c (.r l.length 2 (elE l))] [801] rfl rfl rfl rfl ⟨rfl, rfl, rfl, trivial⟩ (fun args w => Try.call15 args w) (fun ρ w hs hok => cloneEI_any A c l w (hs.row (cap := c) rfl (hok _ List.mem_cons_self)) hm) ?_
  refine GO.callPlain (v := I (checkM n m l)) rfl rfl rfl rfl (fun args w => Try.call17 args w) (fun ρ w hs hok => check_any n m _ _ l w (hs.rowR rfl (hok _ (List.mem_cons_of_mem _ (List.mem_cons_of_mem _ List.mem_cons_self))) (Nat.le_refl _)) hm) ?_
  refine GO.more tfine rfl trivial ?_
  refine GO.callPlain (v := I (checkM n m l)) rfl rfl rfl rfl (fun args w => Try.call18 args w) (fun ρ w hs hok => refCheck_any n m A c l w (hs.row (cap := c) rfl (hok _ (List.mem_cons_of_mem _ (List.mem_cons_of_mem _ List.mem_cons_self)))) hm) ?_
  refine GO.fin tfine rfl ?_ ?_
  · first | trivial | (simp [AllP, condB]; done) | (simp only [AllP]; and_intros <;> first | trivial | decide | omega) | (simp [AllP, condB]; intros; and_intros <;> first | assumption | omega) | (simp [AllP, condB]; intros; simp_all; done) | (simp [AllP, condB]; intros; simp_all; omega) | (simp [AllP, condB]; omega)
  refine G.ret (endK.ret rfl ?_)
  simp
/-! ### Turned -/
def rowsOf (L : List Eg) (r : Nat) : List Eg := (L.filter fun e => e.2 == r).map swap
def turnK (L : List Eg) (k : Nat) : List Eg := (List.range k).flatMap (rowsOf L)
theorem turnK_succ (L : List Eg) (k : Nat) : turnK L (k + 1) = turnK L k ++ rowsOf L k := by
  simp [turnK, List.range_succ]
theorem rowsOf_succ (L : List Eg) (r i : Nat) (h : i < L.length) : rowsOf (L.take (i + 1)) r = rowsOf (L.take i) r ++ (if (L.getD i (0, 0)).2 = r then [swap (L.getD i (0, 0))] else []) := by
  unfold rowsOf
  rw [List.take_add_one, List.getElem?_eq_getElem h, List.filter_append, List.map_append, List.getD_eq_getElem?_getD, List.getElem?_eq_getElem h]
  congr 1
  by_cases e : (L[i]).2 = r <;> simp [e]
theorem mem_turnK {L : List Eg} {k : Nat} {e : Eg} : e ∈ turnK L k ↔ e.1 < k ∧ swap e ∈ L := by
  simp only [turnK, List.mem_flatMap, List.mem_range, rowsOf, List.mem_map, List.mem_filter]
  constructor
  · rintro ⟨r, hr, x, ⟨hx, hxr⟩, rfl⟩
    simp only [beq_iff_eq] at hxr
    exact ⟨by simp only [swap]; omega, by simpa [swap] using hx⟩
  · rintro ⟨h1, h2⟩
    exact ⟨e.1, h1, swap e, ⟨h2, by simp [swap]⟩, by simp [swap]⟩
theorem turnK_len (L : List Eg) (k : Nat) (h : L.Pairwise lexlt) : (turnK L k).Pairwise lexlt ∧ (turnK L k).length ≤ L.length := by
  have hup : (turnK L k).Pairwise lexlt := by
    induction k with
    | zero => exact List.Pairwise.nil
    | succ k ih =>
      rw [turnK_succ, List.pairwise_append]
      refine ⟨ih, ?_, fun a ha b hb => ?_⟩
      · unfold rowsOf
        rw [List.pairwise_map]
        have hf : (L.filter fun e => e.2 == k).Pairwise lexlt := h.filter _
        refine List.Pairwise.imp_of_mem ?_ hf
        intro a b ha hb hab
        have h1 := (List.mem_filter.1 ha).2
        have h2 := (List.mem_filter.1 hb).2
        simp only [beq_iff_eq] at h1 h2
        unfold lexlt at hab ⊢
        simp only [swap]
        omega
      · have h1 := (mem_turnK.1 ha).1
        obtain ⟨x, hx, rfl⟩ := List.mem_map.1 hb
        have h2 := (List.mem_filter.1 hx).2
        simp only [beq_iff_eq] at h2
        unfold lexlt
        simp only [swap]
        omega
  refine ⟨hup, ?_⟩
  have hnd : (turnK L k).Nodup := hup.imp fun hab e => by subst e; unfold lexlt at hab; omega
  have := nodup_le (l := (turnK L k).map swap) (r := L) (nodup_map hnd fun x _ y _ e => by
    unfold swap at e
    injection e with e1 e2
    obtain ⟨x1, x2⟩ := x
    obtain ⟨y1, y2⟩ := y
    simp only at e1 e2
    rw [e1, e2]) fun y hy => by
      obtain ⟨x, hx, rfl⟩ := List.mem_map.1 hy
      exact (mem_turnK.1 hx).2
  simpa using this
theorem turn_ok {n m : Int} {l : List EI} {N M : Nat} {L : List Eg} (h : Okay n m l N M L) : Okay m n (castL (turnK L M)) M N (turnK L M) := by
  obtain ⟨h1, h2⟩ := turnK_len L M h.up
  exact ⟨h.hm, h.hn, h.hM, h.hN, rfl, by have := h.len; omega, fun e he => by
    have := mem_turnK.1 he
    have h3 := h.mem _ this.2
    simp only [swap] at h3
    omega, h1⟩
theorem turn_size {n m : Int} {l : List EI} {N M : Nat} {L : List Eg} (h : Okay n m l N M L) : sizeA m n (castL (turnK L M)) = sizeA n m l := by
  have ht := turn_ok h
  have c1 := ok_check h
  have c2 := ok_check ht
  have e1 : toEg l = L := by rw [h.hl, toEg_cast]
  have m1 : IsMax L (sizeM (matched N L)) := h.best.max
  have m2 : IsMax (turnK L M) (sizeM (matched M (turnK L M))) := ht.best.max
  have m3 : IsMax (turnK L M) (sizeM (matched N L)) := m1.turn.congr fun e => by
    rw [mem_turnK]
    constructor
    · intro he
      obtain ⟨x, hx, rfl⟩ := List.mem_map.1 he
      exact ⟨by have := (h.mem x hx).2; simp only [swap]; omega, by simpa [swap] using hx⟩
    · rintro ⟨_, he⟩
      exact List.mem_map.2 ⟨_, he, by simp [swap]⟩
  rw [sizeA, if_neg (by simp [c2]), sizeA, if_neg (by simp [c1]), msOf, msOf, toEg_cast, e1]
  have := m2.unique m3
  rw [show m.toNat = M by rw [h.hm]; simp, show n.toNat = N by rw [h.hn]; simp, this]
theorem size_err {n m : Int} {l : List EI} (h : (sizeA n m l).2 ≠ 0) : (sizeA n m l).1 = 0 := by
  unfold sizeA at h ⊢
  split at h
  · rename_i h1; rw [if_pos h1]
  · exact absurd rfl h
theorem size_ok {n m : Int} {l : List EI} (h : (sizeA n m l).2 = 0) : checkM n m l = 0 := by
  unfold sizeA at h
  split at h
  · cases h
  · rename_i h1; simpa using h1
theorem rowsOf_len (L : List Eg) (r : Nat) : (rowsOf L r).length ≤ L.length := by
  unfold rowsOf
  rw [List.length_map]
  exact List.length_filter_le _ _
theorem MatchTurned_any (n m : Int) (A : Option Addr) (c : Nat) (l : List EI) (w : World) (hl : RdRow w A l.length 2 (elE l)) :
    Calls Try.prog 7 #[.agg #[I n, I m], .slice A l.length c] w fun e w' => e = .returned (.bool true) ∧ Below w.heap.size w w' := by
  refine enterPlain tfine Try.func7 rfl 76 Try.ntmps7 [.agg [.k (I n), .k (I m)], .c (.inp 1000 A l.length c)] [⟨1000, A, 2, l.length, elE l⟩] rfl rfl ⟨hl, trivial⟩ ⟨⟨trivial, trivial, trivial⟩, .inl ⟨rfl, rfl, rfl⟩, trivial⟩ ?_
  refine G.seqR tfine rfl trivial ?_
  refine G.seq ?_
  refine G.seqC tfine rfl trivial ?_
  refine GO.callPlain (v := .bool true) rfl rfl rfl rfl (fun args w => Try.call10 args w) (fun ρ w hs hok => awake_any w) ?_
  refine GO.fin tfine rfl trivial ?_
  refine G.cond_false rfl ?_
  refine G.skip ?_
  refine G.seq ?_
  refine G.seqR tfine rfl trivial ?_
  refine G.cond (b := decide ((l.length : Int) > 40)) rfl (fun h => ?_) (fun h => ?_)
  · refine G.seqR tfine rfl trivial ?_
    exact G.ret (endK.ret rfl rfl)
  have h := of_decide_eq_false h
  have hm : l.length ≤ 1000000 := by omega
  refine G.skip ?_
  refine G.seqDraw hmix [0, 1, 0, 4, 0, 16, 63, 127, 255, 255, 511, 2047] [(5, 800), (5, 850)] rfl rfl rfl ?_
  refine GD.more tfine 0 rfl rfl trivial ?_
  refine GD.callAns [.c (.r l.length 2 (elE l))] [800] 5 rfl rfl rfl rfl rfl ⟨rfl, rfl, rfl, trivial⟩ rfl (fun args w => Try.call15 args w) (fun m1 hle ρ w hs hok => cloneEI_any A c l w (hs.row (cap := c) (hle.at rfl) (hok _ List.mem_cons_self)) hm) ?_
  refine GD.call (v := .tuple #[I (sizeA n m l).1, I (sizeA n m l).2]) 6 rfl rfl rfl rfl rfl (fun args w => Try.call13 args w) (fun m1 hle ρ w hs hok => Size_any n m _ _ l w (hs.rowR (hle.at rfl) (hok _ (List.mem_cons_of_mem _ (List.mem_cons_of_mem _ List.mem_cons_self))) (Nat.le_refl _)) hm) ?_
  refine GD.fin tfine 7 rfl rfl trivial ?_
  refine G.seq ?_
  refine G.seqR tfine rfl trivial ?_
  refine G.cond (b := ((sizeA n m l).2 != 0)) rfl (fun h2 => ?_) (fun h2 => ?_)
  · refine G.seqR tfine rfl trivial ?_
    refine G.ret (endK.ret rfl ?_)
    rw [size_err (by simpa using h2)]
    rfl
  have h2 : (sizeA n m l).2 = 0 := by simpa using h2
  have ok := check_ok (size_ok h2)
  obtain ⟨L, hL⟩ : ∃ L, L = toEg l := ⟨_, rfl⟩
  obtain ⟨N, hN⟩ : ∃ N, N = n.toNat := ⟨_, rfl⟩
  obtain ⟨M, hM⟩ : ∃ M, M = m.toNat := ⟨_, rfl⟩
  rw [← hL, ← hN, ← hM] at ok
  have hlc := ok.hl
  clear hL
  subst hlc
  have hmM := ok.hm
  have hM24 := ok.hM
  have hlen := castL_len L
  have he0 : (sizeA n m (castL L)).2 = 0 := h2
  refine G.skip ?_
  refine G.seq ?_
  refine G.seqR tfine rfl trivial ?_
  refine G.cond (b := decide (m > 24)) rfl (fun h3 => ?_) (fun h3 => ?_)
  · exfalso
    have := of_decide_eq_true h3
    omega
  refine G.skip ?_
  refine G.seqR tfine rfl trivial ?_
  refine G.newNil 57 2 (elG (turnK L 0)) rfl ?_
  refine G.seq (G.seqR tfine rfl trivial ?_)
  refine G.block (G.loop (fun z : Nat × Nat => St.of [(1, .v (.c (.inp 1000 A (castL L).length c))), (2, .v (.c (.ptr 2 0 0 0))), (5, .v (.c (.k (I (sizeA n m (castL L)).1)))), (7, .v (.c (accV 57 2 (turnK L z.1).length z.2))), (36, .v (.c (.k (I m)))), (37, .v (.c (.k (I z.1))))] [(2, .var 23 [.k (I n), .k (I m)]), (57, accB 35 2 (turnK L z.1).length z.2 (elG (turnK L z.1))), (1000, .ro 2 (castL L).length (elE (castL L)))])
    (fun z => z.1 ≤ M ∧ (turnK L z.1).length ≤ z.2) (fun z => M - z.1) (0, 0) ⟨Nat.zero_le _, Nat.le_refl _⟩ (St.le_of rfl ⟨⟨_, rfl, Blk.le_refl _⟩, ⟨_, rfl, Blk.le_refl _⟩, ⟨_, rfl, Blk.le_refl _⟩, trivial⟩ ⟨rfl, rfl, rfl, rfl, rfl, rfl, trivial⟩) ?_)
  rintro ⟨r, cp⟩ ⟨hr, hcp⟩
  dsimp only at hr hcp ⊢
  refine G.seqR tfine rfl trivial ?_
  refine G.seq (G.cond (b := decide ((r : Int) < m)) rfl (fun h4 => ?_) (fun h4 => ?_))
  rotate_left
  · have h4 := of_decide_eq_false h4
    have : r = M := by omega
    subst this
    obtain ⟨hup, htl⟩ := turnK_len L r ok.up
    refine G.exit ?_
    have hel : ∀ k, k < (turnK L r).length → elG (turnK L r) k = elE (castL (turnK L r)) k := fun k _ => (elE_cast _ k).symm
    obtain ⟨el, hele⟩ : ∃ el, el = elG (turnK L r) := ⟨_, rfl⟩
    rw [← hele] at hel ⊢
    obtain ⟨q, hq⟩ : ∃ q, q = (turnK L r).length := ⟨_, rfl⟩
    rw [← hq] at htl hel hcp ⊢
    rcases q with _ | q
    · refine G.seqC tfine rfl trivial ?_
      refine GO.callPlain (v := .tuple #[I (sizeA n m (castL L)).1, I (sizeA n m (castL L)).2]) rfl rfl rfl rfl (fun args w => Try.call13 args w) (fun ρ w hs hok => ?_) ?_
      · have := Size_any m n none 0 (castL (turnK L r)) w (by
          rw [castL_len, ← hq]
          exact RdRow.nil _ _ _ _) (by rw [castL_len, ← hq]; omega)
        rw [turn_size ok, castL_len, ← hq] at this
        exact this
      refine GO.fin tfine rfl trivial ?_
      refine G.seqR tfine rfl ?_ ?_
      · first | trivial | (simp [AllP, condB]; done) | (simp only [AllP]; and_intros <;> first | trivial | decide | omega) | (simp [AllP, condB]; intros; and_intros <;> first | assumption | omega) | (simp [AllP, condB]; intros; simp_all; done) | (simp [AllP, condB]; intros; simp_all; omega) | (simp [AllP, condB]; omega)
      refine G.ret (endK.ret rfl ?_)
      rw [he0]
      simp
    · refine G.seqC tfine rfl trivial ?_
      refine GO.callPlain (v := .tuple #[I (sizeA n m (castL L)).1, I (sizeA n m (castL L)).2]) rfl rfl rfl rfl (fun args w => Try.call13 args w) (fun ρ w hs hok => ?_) ?_
      · have := Size_any m n (some ⟨(ρ 57).1, (ρ 57).2 + 0 * 2, none⟩) cp (castL (turnK L r)) w (by
          rw [castL_len, ← hq]
          exact RdRow.congr (hs.rdArr (x := 57) rfl 0 (q + 1) (by omega)) fun k hk => by rw [Nat.zero_add]; exact (hel k hk).symm) (by rw [castL_len, ← hq]; omega)
        rw [turn_size ok, castL_len, ← hq] at this
        exact this
      refine GO.fin tfine rfl trivial ?_
      refine G.seqR tfine rfl ?_ ?_
      · first | trivial | (simp [AllP, condB]; done) | (simp only [AllP]; and_intros <;> first | trivial | decide | omega) | (simp [AllP, condB]; intros; and_intros <;> first | assumption | omega) | (simp [AllP, condB]; intros; simp_all; done) | (simp [AllP, condB]; intros; simp_all; omega) | (simp [AllP, condB]; omega)
      refine G.ret (endK.ret rfl ?_)
      rw [he0]
      simp
  have h4 := of_decide_eq_true h4
  obtain ⟨hup, htl⟩ := turnK_len L r ok.up
  refine G.skip ?_
  refine G.seq (G.block ?_)
  refine G.seqR tfine rfl trivial ?_
  refine G.seqR tfine rfl trivial ?_
  obtain ⟨Q, hQ⟩ : ∃ Q : Nat → List Eg, ∀ i, Q i = turnK L r ++ rowsOf (L.take i) r := ⟨_, fun _ => rfl⟩
  have hQ0 : Q 0 = turnK L r := by rw [hQ]; simp [rowsOf]
  have hQl : ∀ i, (Q i).length ≤ 80 := fun i => by
    rw [hQ, List.length_append]
    have h5 := rowsOf_len (L.take i) r
    have h6 : (List.take i L).length ≤ L.length := by rw [List.length_take]; omega
    omega
  refine G.block (G.loop (fun z : Nat × Nat => St.of [(1, .v (.c (.inp 1000 A (castL L).length c))), (2, .v (.c (.ptr 2 0 0 0))), (5, .v (.c (.k (I (sizeA n m (castL L)).1)))), (7, .v (.c (accV 57 2 (Q z.1).length z.2))), (8, .v (.c (.k (I r)))), (36, .v (.c (.k (I m)))), (37, .v (.c (.k (I r)))), (40, .v (.c (.inp 1000 A (castL L).length c))), (41, .v (.c (.k (I (castL L).length)))), (42, .v (.c (.k (I z.1))))] [(2, .var 23 [.k (I n), .k (I m)]), (57, accB 35 2 (Q z.1).length z.2 (elG (Q z.1))), (1000, .ro 2 (castL L).length (elE (castL L)))])
    (fun z => z.1 ≤ L.length ∧ (Q z.1).length ≤ z.2) (fun z => L.length - z.1) (0, cp) ⟨Nat.zero_le _, by rw [hQ0]; exact hcp⟩ (by
      simp only [hQ0]
      exact St.le_of (by generalize (turnK L r).length = q; cases q <;> rfl) ⟨⟨_, rfl, Blk.le_refl _⟩, ⟨_, rfl, Blk.le_refl _⟩, ⟨_, rfl, Blk.le_refl _⟩, trivial⟩ ⟨rfl, rfl, rfl, rfl, rfl, rfl, rfl, rfl, rfl, rfl, trivial⟩) ?_)
  rintro ⟨i, cq⟩ ⟨hi, hcq⟩
  dsimp only at hi hcq ⊢
  refine G.seqR tfine rfl trivial ?_
  refine G.seq (G.cond (b := decide ((i : Int) < ((castL L).length : Int))) rfl (fun h5 => ?_) (fun h5 => ?_))
  rotate_left
  · have h5 := of_decide_eq_false h5
    have : i = L.length := by omega
    subst this
    refine G.exit ?_
    refine G.reg tfine rfl trivial ?_
    rw [IntWalk.i64_in ((r : Int) + 1) (by omega)]
    have e : Q L.length = turnK L (r + 1) := by rw [hQ, List.take_length, turnK_succ]
    refine ⟨(r + 1, cq), ⟨by simp only; omega, by simp only [← e]; exact hcq⟩, (by show M - (r + 1) < M - r; omega), ?_⟩
    simp only [← e]
    exact St.le_of (by generalize (Q L.length).length = q; cases q <;> rfl) ⟨⟨_, rfl, Blk.le_refl _⟩, ⟨_, rfl, Blk.le_refl _⟩, ⟨_, rfl, Blk.le_refl _⟩, trivial⟩ ⟨rfl, rfl, rfl, rfl, rfl, by simp [up, I], trivial⟩
  have h5 := of_decide_eq_true h5
  have hlt : i < L.length := by omega
  obtain ⟨x, hx⟩ : ∃ x, x = (L.getD i (0, 0)).1 := ⟨_, rfl⟩
  obtain ⟨y, hy⟩ : ∃ y, y = (L.getD i (0, 0)).2 := ⟨_, rfl⟩
  have hxy : L.getD i (0, 0) = (x, y) := by rw [hx, hy]
  have hQs : Q (i + 1) = Q i ++ (if y = r then [(y, x)] else []) := by rw [hQ, hQ, rowsOf_succ _ _ _ hlt, List.append_assoc, hxy]; rfl
  refine G.skip ?_
  refine G.seq (G.block ?_)
  refine G.seqR tfine rfl ⟨by rw [hlen]; simpa using hlt, by omega, by omega, trivial⟩ ?_
  rw [Int.toNat_natCast, getD_cast, ← hx, ← hy]
  refine G.seqR tfine rfl trivial ?_
  refine G.cond (b := ((y : Int) == (r : Int))) rfl (fun h6 => ?_) (fun h6 => ?_)
  · have h6 : y = r := by simp only [beq_iff_eq] at h6; omega
    rw [if_pos h6] at hQs
    have hb := hQl i
    refine G.region_lit ?_
    refine GO.moveAny tfine rfl (.inl rfl) rfl rfl rfl ?_
    refine GO.more tfine rfl trivial ?_
    refine GO.appendAccB (n := (Q i).length) (c := cq) (el := elG (Q i)) [I y, I x] [(1, .v (.c (.inp 1000 A (castL L).length c))), (2, .v (.c (.ptr 2 0 0 0))), (5, .v (.c (.k (I (sizeA n m (castL L)).1)))), (8, .v (.c (.k (I r)))), (36, .v (.c (.k (I m)))), (37, .v (.c (.k (I r)))), (40, .v (.c (.inp 1000 A (castL L).length c))), (41, .v (.c (.k (I (castL L).length)))), (42, .v (.c (.k (I i))))] [(2, .var 23 [.k (I n), .k (I m)]), (1000, .ro 2 (castL L).length (elE (castL L)))] apE rfl rfl rfl rfl rfl rfl rfl rfl rfl rfl (fun u hu => by simp at hu; rcases hu with rfl | rfl <;> rfl)
      (St.le_of rfl ⟨⟨_, rfl, Blk.le_refl _⟩, ⟨_, rfl, Blk.le_refl _⟩, trivial⟩ ⟨rfl, rfl, rfl, rfl, rfl, rfl, rfl, rfl, rfl, trivial⟩) (subM.fr ⟨rfl, nx rfl, rfl, nx rfl, trivial⟩) (fun k hk => rfl) (by unfold maxLen; omega) (by omega) fun c' hc' => ?_
    refine GO.fin tfine rfl trivial ?_
    refine G.reg tfine rfl trivial ?_
    rw [IntWalk.i64_in ((i : Int) + 1) (by omega)]
    have hl2 : (Q i ++ [(y, x)]).length = (Q i).length + 1 := by simp
    refine ⟨(i + 1, c'), ⟨by simp only; omega, by simp only [hQs]; rw [hl2]; exact hc'⟩, (by show L.length - (i + 1) < L.length - i; omega), ?_⟩
    simp only [hQs]
    rw [hl2]
    refine St.le_of rfl ⟨⟨_, rfl, Blk.le_refl _⟩, ⟨_, rfl, rfl, rfl, Nat.le_refl _, fun k hk => ?_, Nat.le_refl _⟩, ⟨_, rfl, Blk.le_refl _⟩, trivial⟩ ⟨rfl, rfl, rfl, rfl, rfl, rfl, rfl, rfl, rfl, by simp [up, I], trivial⟩
    have hk' : k < (Q i).length + 1 := hk
    by_cases e : k = (Q i).length
    · subst e
      rw [elN_eq]
      simp only [elG, getDG_app_eq]
    · rw [elN_lt (by omega)]
      simp only [elG]
      rw [getDG_app_lt (by omega)]
  · have h6 : y ≠ r := by simp only [beq_eq_false_iff_ne, ne_eq] at h6; omega
    rw [if_neg h6, List.append_nil] at hQs
    refine G.skip ?_
    refine G.reg tfine rfl trivial ?_
    rw [IntWalk.i64_in ((i : Int) + 1) (by omega)]
    refine ⟨(i + 1, cq), ⟨by simp only; omega, by simp only [hQs]; exact hcq⟩, (by show L.length - (i + 1) < L.length - i; omega), ?_⟩
    simp only [hQs]
    exact St.le_of (by generalize (Q i).length = q; cases q <;> rfl) ⟨⟨_, rfl, Blk.le_refl _⟩, ⟨_, rfl, Blk.le_refl _⟩, ⟨_, rfl, Blk.le_refl _⟩, trivial⟩ ⟨rfl, rfl, rfl, rfl, rfl, rfl, rfl, rfl, rfl, by simp [up, I], trivial⟩
end Go.Proofs.Ytnoejcejkdkaeaa
/- Chapter 37: the law MatchLacks. -/
set_option linter.unusedVariables false
set_option linter.unusedSimpArgs false
set_option maxRecDepth 8000
set_option maxHeartbeats 1000000
namespace Go.Proofs.Ytnoejcejkdkaeaa
open Go.Sx Go.RowKit Mt
theorem lawAscends_any (most : Int) (A : Option Addr) (c : Nat) (l : List Int) (w : World) (hl : RdRow w A l.length 1 (elI l)) (hm : l.length ≤ 1000000) :
    Calls Try.prog 23 #[.slice A l.length c, I most] w fun e w' => e = .returned (.bool (ascB l most)) ∧ Below w.heap.size w w' := by
  refine enterPlain tfine Try.func23 rfl 35 Try.ntmps23 [.c (.inp 1000 A l.length c), .c (.k (I most))] [⟨1000, A, 1, l.length, elI l⟩] rfl rfl ⟨hl, trivial⟩ ⟨.inl ⟨rfl, rfl, rfl⟩, trivial, trivial⟩ ?_
  refine G.seqR tfine rfl trivial ?_
  refine G.seq (G.seqR tfine rfl trivial ?_)
  refine G.block (G.loop (fun k : Nat => St.of [(0, .v (.c (.inp 1000 A l.length c))), (1, .v (.c (.k (I most)))), (7, .v (.c (.inp 1000 A l.length c))), (8, .v (.c (.k (I l.length)))), (9, .v (.c (.k (I k))))] [(1000, .ro 1 l.length (elI l))])
    (fun k => k ≤ l.length ∧ ascB l most = !((List.range' k (l.length - k)).any (badA l most))) (fun k => l.length - k) 0 ⟨by omega, rfl⟩ (St.le_of rfl ⟨⟨_, rfl, Blk.le_refl _⟩, trivial⟩ ⟨rfl, rfl, rfl, rfl, rfl, trivial⟩) ?_)
  rintro k ⟨hk, hfi⟩
  refine G.seqR tfine rfl trivial ?_
  refine G.seq (G.cond rfl (fun h => ?_) (fun h => ?_))
  rotate_left
  · have h := of_decide_eq_false h
    have : k = l.length := by omega
    subst this
    refine G.exit ?_
    refine G.seqR tfine rfl trivial ?_
    refine G.ret (endK.ret rfl ?_)
    rw [hfi, Nat.sub_self]
    rfl
  have h := of_decide_eq_true h
  have hlt : k < l.length := by omega
  rw [any_step hlt] at hfi
  have e0 : (IntKind.i64.wrap ((k : Int) - 1)).toNat = k - 1 := by
    rw [IntWalk.i64_in _ (by omega)]; omega
  refine G.skip ?_
  refine G.seq (G.block ?_)
  refine G.seqR tfine rfl ⟨by simpa using hlt, by omega, by omega, trivial⟩ ?_
  rw [Int.toNat_natCast]
  refine G.seqR tfine rfl ?_ ?_
  · rw [e0, IntWalk.i64_in _ (by omega)]
    simp [AllP, condB]
    omega
  rw [e0]
  refine G.cond (b := badA l most k) rfl (fun h2 => ?_) (fun h2 => ?_)
  · refine G.seqR tfine rfl trivial ?_
    refine G.ret (endK.ret rfl ?_)
    rw [hfi, h2]
    rfl
  · rw [h2, Bool.false_or] at hfi
    refine G.skip ?_
    refine G.reg tfine rfl trivial ?_
    rw [IntWalk.i64_in ((k : Int) + 1) (by omega)]
    exact ⟨k + 1, ⟨by omega, hfi⟩, (by show l.length - (k + 1) < l.length - k; omega), St.le_of rfl ⟨⟨_, rfl, Blk.le_refl _⟩, trivial⟩ ⟨rfl, rfl, rfl, rfl, by simp [up, I], trivial⟩⟩
def lackI (n m : Int) (l : List EI) : List Int × List Int × Int := (castI (lackA n m l).1, castI (lackA n m l).2.1, (lackA n m l).2.2)
theorem LackI_any (n m : Int) (A : Option Addr) (c : Nat) (l : List EI) (w : World) (hl : RdRow w A l.length 2 (elE l)) (hm : l.length ≤ 1000000) :
    Calls Try.prog 12 #[I n, I m, .slice A l.length c] w fun e w' => Ans w w' [.c (.r (lackI n m l).1.length 1 (elI (lackI n m l).1)), .c (.r (lackI n m l).2.1.length 1 (elI (lackI n m l).2.1)), .c (.p (I (lackI n m l).2.2))] e ∧ Below w.heap.size w w' := by
  have := Lack_any n m A c l w hl hm
  simp only [elW_eq] at this
  simp only [lackI, castI_len]
  exact this
/-- The edges at a number on the right from numbers of a list. -/
def atQ (right : Int) (la : List Int) (e : EI) : Bool := (e.2 == right) && la.any fun y => e.1 == y
theorem lackC_any (g1 g2 : Nat) (hne : g1 ≠ g2) (right : Int) (B : Option Addr) (cb : Nat) (la : List Int) (a b : Int) (w : World) (h1 : w.heap[g1]? = some (.cells #[I right] 3 (0, 0))) (h2 : w.heap[g2]? = some (.cells #[.slice B la.length cb] 26 (0, 0)))
    (hr : RdRow w B la.length 1 (elI la)) (hm : la.length ≤ 1000000) (f1 : 0 < la.length → ∀ q, B = some q → q.block ≠ g1) (f2 : 0 < la.length → ∀ q, B = some q → q.block ≠ g2) :
    Calls Try.prog 25 #[.agg #[I a, I b], .pointer (some ⟨g1, 0, none⟩), .pointer (some ⟨g2, 0, none⟩)] w fun e w' => e = .returned (.bool (atQ right la (a, b))) ∧ Below w.heap.size w w' := by
  refine enterCaps tfine [⟨1900, g1, 3, [.k (I right)]⟩, ⟨1901, g2, 26, [.inp 1000 B la.length cb]⟩] Try.func25 rfl 15 Try.ntmps25 [.agg [.k (I a), .k (I b)], .c (.ptr 1900 0 0 0), .c (.ptr 1901 0 0 0)] [⟨1000, B, 1, la.length, elI la⟩] ⟨hr, trivial⟩ ⟨(show 1000 < 1900 by decide), trivial⟩ ⟨⟨⟨(show (1900 : Nat) ≠ 1901 by decide), hne⟩, trivial⟩, trivial, trivial⟩
    ⟨⟨Nat.le_of_ble_eq_true rfl, ⟨f1, trivial⟩, ⟨trivial, trivial⟩, h1⟩, ⟨Nat.le_of_ble_eq_true rfl, ⟨f2, trivial⟩, ⟨.inl ⟨rfl, rfl, rfl⟩, trivial⟩, h2⟩, trivial⟩ rfl rfl ⟨⟨trivial, trivial, trivial⟩, .inl rfl, .inr (.inl rfl), trivial⟩ ?_
  refine G.seqR tfine rfl trivial ?_
  refine G.seqC tfine rfl ?_ ?_
  · first | trivial | (simp [AllP, condB]; done) | (simp only [AllP]; and_intros <;> first | trivial | decide | omega) | (simp [AllP, condB]; intros; and_intros <;> first | assumption | omega) | (simp [AllP, condB]; intros; simp_all; done) | (simp [AllP, condB]; intros; simp_all; omega) | (simp [AllP, condB]; omega)
  refine GO.callGuard (.bool (la.any fun y => a == y)) rfl rfl rfl (by first | exact trivial | exact ⟨id, trivial⟩ | exact ⟨id, id, trivial⟩ | exact ⟨id, id, id, trivial⟩ | exact ⟨id, id, id, id, trivial⟩) rfl rfl (fun args w => Try.call26 args w) rfl (fun _ m' hle ρ w hs hok => contains_any a B cb la w (hs.row (cap := cb) (hle.at rfl) (hok _ List.mem_cons_self)) hm) ?_
  refine GO.fin tfine rfl ?_ ?_
  · first | trivial | (simp [AllP, condB]; done) | (simp only [AllP]; and_intros <;> first | trivial | decide | omega) | (simp [AllP, condB]; intros; and_intros <;> first | assumption | omega) | (simp [AllP, condB]; intros; simp_all; done) | (simp [AllP, condB]; intros; simp_all; omega) | (simp [AllP, condB]; omega)
  exact G.ret (endCaps.ret rfl rfl ⟨rfl, rfl, trivial⟩)
theorem SatM.apartR {E : Env} {ρ : Val} {m : Mem} {w : World} (h : SatM E ρ m w) {x q n sz len g : Nat} {b : Blk} {el : Nat → List Value} (hx : m x = some b) (ho : b.own) (hq : m q = some (.ro sz n el)) (hl : len ≤ n) (hne : x ≠ q) : 0 < len → ∀ a, rowAd ρ q = some a → a.block ≠ (ρ x).1 := by
  intro h0 a ha
  unfold rowAd at ha
  split at ha
  · cases ha
  injection ha with ha
  subst ha
  have hlive : Blk.live (.ro sz n el) := by show 0 < n; omega
  exact (h.ne x q b _ hx hq ho hlive hne).symm
theorem asc_cast {L : List Nat} {N : Nat} (h1 : L.Pairwise (· < ·)) (h2 : ∀ x ∈ L, x < N) : ascB (castI L) (N : Int) = true := by
  have hg : ∀ k, k < L.length → ∃ h : k < L.length, (castI L).getD k 0 = (L[k] : Int) := fun k hk => ⟨hk, by
    simp [castI, List.getD_eq_getElem?_getD, List.getElem?_eq_getElem hk]⟩
  unfold ascB
  rw [Bool.not_eq_true', List.any_eq_false]
  intro k hk
  have hk : k < L.length := by
    have := (List.mem_range'_1.1 hk).2
    rw [castI_len] at this
    omega
  obtain ⟨_, e1⟩ := hg k hk
  have b1 := h2 _ (List.getElem_mem hk)
  have b2 : 0 < k → ((castI L).getD (k - 1) 0) < (castI L).getD k 0 := fun h0 => by
    obtain ⟨hk1, e2⟩ := hg (k - 1) (by omega)
    rw [e1, e2]
    have := List.pairwise_iff_getElem.1 h1 (k - 1) k hk1 hk (by omega)
    omega
  rw [Bool.not_eq_true, Bool.eq_false_iff]
  intro hb
  unfold badA at hb
  rw [e1] at hb b2
  simp only [Bool.or_eq_true, Bool.and_eq_true, decide_eq_true_eq] at hb
  rcases hb with (hb | hb) | ⟨h3, h4⟩
  · omega
  · omega
  · have := b2 (by omega)
    omega
theorem castI_any (L : List Nat) (k : Nat) : (castI L).any (fun y => (k : Int) == y) = decide (k ∈ L) := by
  rw [Bool.eq_iff_iff, List.any_eq_true]
  simp [castI]
  exact ⟨fun ⟨a, h, e⟩ => by have : a = k := by omega
                             exact this ▸ h, fun h => ⟨k, h, rfl⟩⟩
theorem atQ_any {L : List Eg} {la : List Nat} {k : Nat} : (castL L).any (atQ k (castI la)) = decide (∃ e ∈ L, e.2 = k ∧ e.1 ∈ la) := by
  rw [Bool.eq_iff_iff, List.any_eq_true, decide_eq_true_iff]
  constructor
  · rintro ⟨e, he, h⟩
    obtain ⟨x, hx, rfl⟩ := List.mem_map.1 he
    unfold atQ at h
    rw [Bool.and_eq_true, castI_any] at h
    exact ⟨x, hx, by have := h.1; simp at this; omega, by simpa using h.2⟩
  · rintro ⟨x, hx, h1, h2⟩
    refine ⟨_, List.mem_map.2 ⟨x, hx, rfl⟩, ?_⟩
    unfold atQ
    rw [Bool.and_eq_true, castI_any]
    exact ⟨by simp; omega, by simpa using h2⟩
theorem lack_err1 {n m : Int} {l : List EI} (h : (sizeA n m l).2 ≠ 0) : lackI n m l = ([], [], (sizeA n m l).2) := by
  unfold sizeA at h ⊢
  unfold lackI lackA
  split at h
  · rename_i h1; rw [if_pos h1, if_pos h1]; rfl
  · exact absurd rfl h
theorem lack_err2 {n m : Int} {l : List EI} (h : (sizeA n m l).2 = 0) (h2 : (lackI n m l).2.2 ≠ 0) : lackI n m l = ([], [], 7) ∧ (sizeA n m l).1 = n := by
  have h0 := size_ok h
  have hc : ¬(checkM n m l != 0) = true := by simp [h0]
  by_cases h1 : ((sizeM (msOf n l) : Int) == n) = true
  · simp only [lackI, lackA, sizeA, if_neg hc, if_pos h1]
    exact ⟨rfl, by simpa using h1⟩
  · simp only [lackI, lackA, if_neg hc, if_neg h1] at h2
    exact absurd rfl h2
theorem lack_okay {n m : Int} {l : List EI} (h : (sizeA n m l).2 = 0) (h2 : (lackI n m l).2.2 = 0) : ∃ (N M : Nat) (L : List Eg) (a b : List Nat), n = N ∧ m = M ∧ M ≤ 24 ∧ N ≤ 24 ∧ l = castL L ∧ (lackI n m l).1 = castI a ∧ (lackI n m l).2.1 = castI b ∧
    a.length ≤ 24 ∧ b.length ≤ 24 ∧ (a.length : Int) - b.length = n - (sizeA n m l).1 ∧ (sizeA n m l).1 ≠ n ∧ ascB (castI a) n = true ∧ ascB (castI b) m = true ∧ ∀ y, y < M → (castL L).any (atQ y (castI a)) = (castI b).any fun z => (y : Int) == z := by
  have h0 := size_ok h
  have ok := check_ok h0
  obtain ⟨hk1, hk2⟩ := ok.best.lack
  have e1 : (lackI n m l).1 = castI (whereM (reached n.toNat (toEg l) (matched n.toNat (toEg l))).a n.toNat true) ∧ (lackI n m l).2.1 = castI (coverR n.toNat m.toNat (toEg l)) ∧ (sizeA n m l).1 = sizeM (matched n.toNat (toEg l)) ∧ (sizeM (matched n.toNat (toEg l)) : Int) ≠ n := by
    have hc : ¬(checkM n m l != 0) = true := by simp [h0]
    by_cases h1 : ((sizeM (msOf n l) : Int) == n) = true
    · simp only [lackI, lackA, if_neg hc, if_pos h1] at h2
      cases h2
    · simp only [lackI, lackA, sizeA, if_neg hc, if_neg h1]
      exact ⟨rfl, rfl, rfl, by simpa [msOf] using h1⟩
  obtain ⟨e1, e2, e3, e4⟩ := e1
  have hN := ok.hN
  have hM := ok.hM
  have hn := ok.hn
  have hmm := ok.hm
  have wl : ∀ f : Nat → Bool, ∀ k v, (whereM f k v).length ≤ 24 := fun f k v => by
    have := List.length_filter_le (fun i => decide (i < k) && (f i == v)) (List.range 24)
    rw [List.length_range] at this
    exact this
  refine ⟨n.toNat, m.toNat, toEg l, _, _, hn, hmm, hM, hN, ok.hl, e1, e2, wl _ _ _, wl _ _ _, by rw [e3]; omega, by rw [e3]; exact e4, ?_, ?_, fun y hy => ?_⟩
  · have := asc_cast (N := n.toNat) (where_up (reached n.toNat (toEg l) (matched n.toNat (toEg l))).a n.toNat true) fun x hx => ((where_mem hN _ _).1 hx).1
    rw [← hn] at this
    exact this
  · have := asc_cast (N := m.toNat) (where_up (reached n.toNat (toEg l) (matched n.toNat (toEg l))).b m.toNat true) fun x hx => ((where_mem hM _ _).1 hx).1
    rw [← hmm] at this
    exact this
  · rw [atQ_any, castI_any, decide_eq_decide]
    exact hk1 y hy
theorem MatchLacks_any (n m : Int) (A : Option Addr) (c : Nat) (l : List EI) (w : World) (hl : RdRow w A l.length 2 (elE l)) :
    Calls Try.prog 8 #[.agg #[I n, I m], .slice A l.length c] w fun e w' => e = .returned (.bool true) ∧ Below w.heap.size w w' := by
  refine enterPlain tfine Try.func8 rfl 122 Try.ntmps8 [.agg [.k (I n), .k (I m)], .c (.inp 1000 A l.length c)] [⟨1000, A, 2, l.length, elE l⟩] rfl rfl ⟨hl, trivial⟩ ⟨⟨trivial, trivial, trivial⟩, .inl ⟨rfl, rfl, rfl⟩, trivial⟩ ?_
  refine G.seqR tfine rfl trivial ?_
  refine G.seq ?_
  refine G.seqC tfine rfl trivial ?_
  refine GO.callPlain (v := .bool true) rfl rfl rfl rfl (fun args w => Try.call10 args w) (fun ρ w hs hok => awake_any w) ?_
  refine GO.fin tfine rfl trivial ?_
  refine G.cond_false rfl ?_
  refine G.skip ?_
  refine G.seq ?_
  refine G.seqR tfine rfl trivial ?_
  refine G.cond (b := decide ((l.length : Int) > 40)) rfl (fun h => ?_) (fun h => ?_)
  · refine G.seqR tfine rfl trivial ?_
    exact G.ret (endK.ret rfl rfl)
  have h := of_decide_eq_false h
  have hm : l.length ≤ 1000000 := by omega
  refine G.skip ?_
  obtain ⟨la, hla⟩ : ∃ la, la = (lackI n m l).1 := ⟨_, rfl⟩
  obtain ⟨lb, hlb⟩ : ∃ lb, lb = (lackI n m l).2.1 := ⟨_, rfl⟩
  obtain ⟨le, hle_⟩ : ∃ le, le = (lackI n m l).2.2 := ⟨_, rfl⟩
  obtain ⟨sz, hsz⟩ : ∃ sz, sz = (sizeA n m l).1 := ⟨_, rfl⟩
  obtain ⟨er, her⟩ : ∃ er, er = (sizeA n m l).2 := ⟨_, rfl⟩
  refine G.seqDraw hmix [0, 1, 0, 4, 0, 16, 63, 127, 255, 255, 255, 0, 2559, 7167, 16383] [(5, 800), (5, 850), (6, 801), (6, 851), (6, 802), (6, 852), (11, 5), (12, 5)] rfl rfl rfl ?_
  refine GD.more tfine 0 rfl rfl trivial ?_
  refine GD.callAns [.c (.r l.length 2 (elE l))] [800] 5 rfl rfl rfl rfl rfl ⟨rfl, rfl, rfl, trivial⟩ rfl (fun args w => Try.call15 args w) (fun m1 hle ρ w hs hok => cloneEI_any A c l w (hs.row (cap := c) (hle.at rfl) (hok _ List.mem_cons_self)) hm) ?_
  refine GD.callAns [.c (.r la.length 1 (elI la)), .c (.r lb.length 1 (elI lb)), .c (.p (I le))] [801, 802] 6 rfl rfl rfl rfl rfl ⟨rfl, rfl, rfl, rfl, rfl, rfl, trivial⟩ rfl (fun args w => Try.call12 args w) (fun m1 hle ρ w hs hok => ?_) ?_
  · have := LackI_any n m (rowAd ρ 800) (ρ 850).1 l w (hs.rowR (hle.at rfl) (hok _ (List.mem_cons_of_mem _ (List.mem_cons_of_mem _ List.mem_cons_self))) (Nat.le_refl _)) hm
    rw [← hla, ← hlb, ← hle_] at this
    exact this
  refine GD.fin tfine 7 rfl rfl trivial ?_
  refine G.seqDraw hmix [0, 1, 0, 4, 0, 16, 63, 127, 255, 255, 511, 2047] [(5, 803), (5, 853)] rfl rfl rfl ?_
  refine GD.more tfine 0 rfl rfl trivial ?_
  refine GD.callAns [.c (.r l.length 2 (elE l))] [803] 5 rfl rfl rfl rfl rfl ⟨rfl, rfl, rfl, trivial⟩ rfl (fun args w => Try.call15 args w) (fun m1 hle ρ w hs hok => cloneEI_any A c l w (hs.row (cap := c) (hle.at rfl) (hok _ List.mem_cons_self)) hm) ?_
  refine GD.call (v := .tuple #[I sz, I er]) 6 rfl rfl rfl rfl rfl (fun args w => Try.call13 args w) (fun m1 hle ρ w hs hok => ?_) ?_
  · have := Size_any n m (rowAd ρ 803) (ρ 853).1 l w (hs.rowR (hle.at rfl) (hok _ (List.mem_cons_of_mem _ (List.mem_cons_of_mem _ List.mem_cons_self))) (Nat.le_refl _)) hm
    rw [← hsz, ← her] at this
    exact this
  refine GD.fin tfine 7 rfl rfl trivial ?_
  refine G.seq ?_
  refine G.seqR tfine rfl trivial ?_
  refine G.cond (b := (er != 0)) rfl (fun h2 => ?_) (fun h2 => ?_)
  · refine G.seqR tfine rfl ?_ ?_
    · first | trivial | (simp [AllP, condB]; done) | (simp only [AllP]; and_intros <;> first | trivial | decide | omega) | (simp [AllP, condB]; intros; and_intros <;> first | assumption | omega) | (simp [AllP, condB]; intros; simp_all; done) | (simp [AllP, condB]; intros; simp_all; omega) | (simp [AllP, condB]; omega)
    refine G.ret (endK.ret rfl ?_)
    have h4 := lack_err1 (n := n) (m := m) (l := l) (by rw [← her]; simpa using h2)
    rw [hla, hlb, hle_, h4, ← her]
    simp
  have h2 : er = 0 := by simpa using h2
  refine G.skip ?_
  refine G.seq ?_
  refine G.seqR tfine rfl trivial ?_
  refine G.cond (b := (le != 0)) rfl (fun h3 => ?_) (fun h3 => ?_)
  · refine G.seqR tfine rfl ?_ ?_
    · first | trivial | (simp [AllP, condB]; done) | (simp only [AllP]; and_intros <;> first | trivial | decide | omega) | (simp [AllP, condB]; intros; and_intros <;> first | assumption | omega) | (simp [AllP, condB]; intros; simp_all; done) | (simp [AllP, condB]; intros; simp_all; omega) | (simp [AllP, condB]; omega)
    refine G.ret (endK.ret rfl ?_)
    obtain ⟨h4, h5⟩ := lack_err2 (n := n) (m := m) (l := l) (by rw [← her]; exact h2) (by rw [← hle_]; simpa using h3)
    rw [hla, hlb, hle_, h4, hsz, h5]
    simp
  have h3 : le = 0 := by simpa using h3
  obtain ⟨N, M, L, a, b, hn, hmm, hM, hN, hL, ea, eb, a24, b24, hdiff, hne, as1, as2, hall⟩ := lack_okay (n := n) (m := m) (l := l) (by rw [← her]; exact h2) (by rw [← hle_]; exact h3)
  rw [← hla] at ea
  rw [← hlb] at eb
  rw [← hsz] at hdiff hne
  clear hla hlb hle_ hsz her
  subst ea eb hn hmm hL
  have hla24 : (castI a).length ≤ 24 := by rw [castI_len]; exact a24
  have hlb24 : (castI b).length ≤ 24 := by rw [castI_len]; exact b24
  have hdiff2 : ((castI a).length : Int) - (castI b).length = N - sz := by rw [castI_len, castI_len]; exact hdiff
  refine G.skip ?_
  refine G.seq ?_
  refine G.seqC tfine rfl ?_ ?_
  · first | trivial | (simp [AllP, condB]; done) | (simp only [AllP]; and_intros <;> first | trivial | decide | omega) | (simp [AllP, condB]; intros; and_intros <;> first | assumption | omega) | (simp [AllP, condB]; intros; simp_all; done) | (simp [AllP, condB]; intros; simp_all; omega) | (simp [AllP, condB]; omega)
  refine GO.callGuard (.bool (ascB (castI a) N)) rfl rfl rfl (by first | exact trivial | exact ⟨id, trivial⟩ | exact ⟨id, id, trivial⟩ | exact ⟨id, id, id, trivial⟩ | exact ⟨id, id, id, id, trivial⟩) rfl rfl (fun args w => Try.call23 args w) rfl (fun _ m' hle ρ w hs hok => lawAscends_any N (rowAd ρ 801) (ρ 851).1 (castI a) w (hs.rowR (hle.at rfl) (hok _ List.mem_cons_self) (Nat.le_refl _)) (by omega)) ?_
  refine GO.more tfine rfl ?_ ?_
  · first | trivial | (simp [AllP, condB]; done) | (simp only [AllP]; and_intros <;> first | trivial | decide | omega) | (simp [AllP, condB]; intros; and_intros <;> first | assumption | omega) | (simp [AllP, condB]; intros; simp_all; done) | (simp [AllP, condB]; intros; simp_all; omega) | (simp [AllP, condB]; omega)
  refine GO.callGuard (.bool (ascB (castI b) M)) rfl rfl rfl (by first | exact trivial | exact ⟨id, trivial⟩ | exact ⟨id, id, trivial⟩ | exact ⟨id, id, id, trivial⟩ | exact ⟨id, id, id, id, trivial⟩) rfl rfl (fun args w => Try.call23 args w) rfl (fun _ m' hle ρ w hs hok => lawAscends_any M (rowAd ρ 802) (ρ 852).1 (castI b) w (hs.rowR (hle.at rfl) (hok _ List.mem_cons_self) (Nat.le_refl _)) (by omega)) ?_
  refine GO.fin tfine rfl ?_ ?_
  · first | trivial | (simp [AllP, condB]; done) | (simp only [AllP]; and_intros <;> first | trivial | decide | omega) | (simp [AllP, condB]; intros; and_intros <;> first | assumption | omega) | (simp [AllP, condB]; intros; simp_all; done) | (simp [AllP, condB]; intros; simp_all; omega) | (simp [AllP, condB]; omega)
  rw [as1, as2]
  rw [IntWalk.i64_in (((castI a).length : Int) - (castI b).length) (by omega), hdiff2]
  refine G.cond (b := ((((decide ((M : Int) > 24) || ((N : Int) - sz != IntKind.i64.wrap ((N : Int) - sz))) || (sz == (N : Int))) || !true) || !true)) rfl (fun h4 => ?_) (fun h4 => ?_)
  · exfalso
    rw [IntWalk.i64_in _ (by omega)] at h4
    simp at h4
    omega
  clear h4
  refine G.skip ?_
  refine G.seq (G.seqR tfine rfl trivial ?_)
  refine G.block (G.loop (fun k : Nat => St.of [(1, .v (.c (.inp 1000 A (castL L).length c))), (2, .v (.c (.ptr 2 0 0 0))), (5, .v (.c (.ptr 5 0 0 0))), (6, .v (.c (.row 802 (castI b).length w.heap.size))), (109, .v (.c (.k (I M)))), (110, .v (.c (.k (I k))))]
      [(2, .var 23 [.k (I N), .k (I M)]), (5, .var 26 [.row 801 (castI a).length w.heap.size]), (801, .ro 1 (castI a).length (elI (castI a))), (851, .ro 0 0 fun _ => []), (802, .ro 1 (castI b).length (elI (castI b))), (852, .ro 0 0 fun _ => []), (1000, .ro 2 (castL L).length (elE (castL L)))])
    (fun k => k ≤ M) (fun k => M - k) 0 (Nat.zero_le _) (St.le_of rfl ⟨⟨_, rfl, Blk.le_refl _⟩, ⟨_, rfl, Blk.le_refl _⟩, ⟨_, rfl, Blk.le_refl _⟩, ⟨_, rfl, Blk.le_refl _⟩, ⟨_, rfl, Blk.le_refl _⟩, ⟨_, rfl, Blk.le_refl _⟩, ⟨_, rfl, Blk.le_refl _⟩, trivial⟩ ⟨rfl, rfl, rfl, rfl, rfl, rfl, trivial⟩) ?_)
  intro k hk
  refine G.seqR tfine rfl trivial ?_
  refine G.seq (G.cond (b := decide ((k : Int) < (M : Int))) rfl (fun h5 => ?_) (fun h5 => ?_))
  rotate_left
  · refine G.exit ?_
    refine G.seqR tfine rfl trivial ?_
    exact G.ret (endK.ret rfl rfl)
  have h5 := of_decide_eq_true h5
  have hlt : k < M := by omega
  refine G.skip ?_
  refine G.seq (G.block ?_)
  refine G.seqR tfine rfl trivial ?_
  refine G.seqC tfine rfl trivial ?_
  refine GO.callPlain (v := .bool ((castL L).any (atQ k (castI a)))) rfl rfl rfl rfl (fun args w => Try.call24 args w) (fun ρ w1 hs hok => ?_) ?_
  · have k5 := hs.ok 5 _ rfl
    have k10 := hs.ok 10 _ rfl
    have lt5 := hs.lt (x := 5) rfl trivial
    have lt10 := hs.lt (x := 10) rfl trivial
    have rok : AC.ok ρ _ (.row 801 (castI a).length w.heap.size) := k5.2.2.2 _ List.mem_cons_self
    have f1 := SatM.apartR hs (x := 10) (q := 801) (len := (castI a).length) (g := 0) rfl trivial rfl (Nat.le_refl _) (nx rfl)
    have f2 := SatM.apartR hs (x := 5) (q := 801) (len := (castI a).length) (g := 0) rfl trivial rfl (Nat.le_refl _) (nx rfl)
    have hne5 : (ρ 10).1 ≠ (ρ 5).1 := hs.ne 10 5 _ _ rfl rfl trivial trivial (nx rfl)
    have r1 := hs.rowR (x := 801) rfl rok (Nat.le_refl _)
    have := containsFuncE_any 25 [.pointer (some ⟨(ρ 10).1, 0, none⟩), .pointer (some ⟨(ρ 5).1, 0, none⟩)] (atQ k (castI a)) (fun args w => Try.call25 args w) A c (castL L) w1
      (fun a' b' w2 hb => lackC_any (ρ 10).1 (ρ 5).1 hne5 k (rowAd ρ 801) (ρ 851).1 (castI a) a' b' w2 ((hb.block _ lt10).trans k10.2.2.1) ((hb.block _ lt5).trans k5.2.2.1) (r1.below hb) (by omega) f1 f2) (hs.row (cap := c) rfl (hok _ List.mem_cons_self)) hm
    have e5 : (ρ 5).2 = 0 := k5.1
    have e10 : (ρ 10).2 = 0 := k10.1
    have e : (List.map (AV.conc ρ) [AV.c (.inp 1000 A (castL L).length c), AV.c (.fn 25 [.own 10 0, .own 5 0])] ++ List.map (Cap.conc ρ) []).toArray = #[.slice A (castL L).length c, .func (.func 25) #[] [Value.pointer (some ⟨(ρ 10).1, 0, none⟩), Value.pointer (some ⟨(ρ 5).1, 0, none⟩)].toArray] := by
      simp [AV.conc, AC.conc, Cap.conc, e5, e10]
    rw [← e] at this
    exact this
  refine GO.fin tfine rfl trivial ?_
  refine G.seqC tfine rfl trivial ?_
  refine GO.callPlain (v := .bool ((castI b).any fun y => (k : Int) == y)) rfl rfl rfl rfl (fun args w => Try.call26 args w) (fun ρ w1 hs hok => contains_any k (rowAd ρ 802) (ρ 852).1 (castI b) w1 (hs.rowR rfl (hok _ List.mem_cons_self) (Nat.le_refl _)) (by omega)) ?_
  refine GO.fin tfine rfl trivial ?_
  rw [hall k hlt]
  refine G.cond (b := (((castI b).any fun y => (k : Int) == y) != ((castI b).any fun y => (k : Int) == y))) rfl (fun h6 => ?_) (fun h6 => ?_)
  · simp at h6
  refine G.skip ?_
  refine G.reg tfine rfl trivial ?_
  rw [IntWalk.i64_in ((k : Int) + 1) (by omega)]
  exact ⟨k + 1, by omega, (by show M - (k + 1) < M - k; omega), St.le_of rfl ⟨⟨_, rfl, Blk.le_refl _⟩, ⟨_, rfl, Blk.le_refl _⟩, ⟨_, rfl, Blk.le_refl _⟩, ⟨_, rfl, Blk.le_refl _⟩, ⟨_, rfl, Blk.le_refl _⟩, ⟨_, rfl, Blk.le_refl _⟩, ⟨_, rfl, Blk.le_refl _⟩, trivial⟩ ⟨rfl, rfl, rfl, rfl, rfl, by simp [up, I], trivial⟩⟩
end Go.Proofs.Ytnoejcejkdkaeaa
/- Chapter 37: the reference's Verify, and the law MatchVerifies. -/
set_option linter.unusedVariables false
set_option linter.unusedSimpArgs false
set_option maxRecDepth 8000
set_option maxHeartbeats 1000000
namespace Go.Proofs.Ytnoejcejkdkaeaa
open Go.Sx Go.RowKit Mt
def knB (l : List EI) (x : EI) (j : Nat) : Bool := (List.range j).any fun i => eqE (l.getD i (0, 0)) x
theorem knB_succ (l : List EI) (x : EI) (j : Nat) : knB l x (j + 1) = (knB l x j || eqE (l.getD j (0, 0)) x) := by simp [knB, List.range_succ]
theorem eqE_comm (a b : EI) : eqE a b = eqE b a := by
  rw [Bool.eq_iff_iff]
  simp only [eqE, Bool.and_eq_true, beq_iff_eq]
  omega
theorem knB_all (l : List EI) (x : EI) : knB l x l.length = l.any (eqE x) := by
  rw [← any_getDE (eqE x), knB, List.range_eq_range']
  simp only [eqE_comm]
def dupB (p : List EI) (k j : Nat) : Bool := (List.range j).any fun i => ((p.getD i (0, 0)).1 == (p.getD k (0, 0)).1) || ((p.getD i (0, 0)).2 == (p.getD k (0, 0)).2)
theorem dupB_succ (p : List EI) (k j : Nat) : dupB p k (j + 1) = (dupB p k j || (((p.getD j (0, 0)).1 == (p.getD k (0, 0)).1) || ((p.getD j (0, 0)).2 == (p.getD k (0, 0)).2))) := by simp [dupB, List.range_succ]
theorem any_or {α : Type} (f g : α → Bool) (l : List α) : (l.any fun x => f x || g x) = (l.any f || l.any g) := by
  induction l with
  | nil => rfl
  | cons a r ih => simp only [List.any_cons, ih]; cases f a <;> cases g a <;> cases r.any f <;> cases r.any g <;> rfl
/-- The program's fault at a pair is the reference's. -/
theorem badP_eq (l p : List EI) (k : Nat) : badP l p k = ((!(knB l (p.getD k (0, 0)) l.length) || (decide ((k : Int) > 0) && !behB (p.getD k (0, 0)) (p.getD (k - 1) (0, 0)))) || dupB p k k) := by
  have hd : dupB p k k = (dupL p k (p.getD k (0, 0)).1 || dupR p k (p.getD k (0, 0)).2) := by
    unfold dupB dupL dupR
    exact any_or _ _ _
  rw [badP, knB_all, hd]
  cases h1 : dupL p k (p.getD k (0, 0)).1 with
  | true => simp
  | false =>
    cases h2 : dupR p k (p.getD k (0, 0)).2 with
    | true => simp
    | false =>
      have : (decide ((k : Int) > 0) && !behB (p.getD k (0, 0)) (p.getD (k - 1) (0, 0))) = (decide ((k : Int) > 0) && decide ((p.getD k (0, 0)).1 < (p.getD (k - 1) (0, 0)).1)) := by
        cases k with
        | zero => rfl
        | succ k =>
          rw [dupL_succ] at h1
          have h1 := (Bool.or_eq_false_iff.1 h1).2
          rw [behB_not, notBeh]
          simp only [Nat.add_sub_cancel]
          have : ((p.getD (k + 1) (0, 0)).1 == (p.getD k (0, 0)).1) = false := by
            rw [← h1, Bool.eq_iff_iff, beq_iff_eq, beq_iff_eq]
            omega
          rw [this]
          simp
      rw [this]
      simp
theorem refVerify_any (n m : Int) (A : Option Addr) (c : Nat) (l : List EI) (C1 C2 C3 : Option Addr) (c1 c2 c3 : Nat) (p : List EI) (L R : List Int) (w : World) (hl : RdRow w A l.length 2 (elE l)) (h1 : RdRow w C1 p.length 2 (elE p)) (h2 : RdRow w C2 L.length 1 (elI L)) (h3 : RdRow w C3 R.length 1 (elI R))
    (hm : l.length ≤ 1000000) (m1 : p.length ≤ 1000000) (m2 : L.length ≤ 1000000) (m3 : R.length ≤ 1000000) :
    Calls Try.prog 21 #[I n, I m, .slice A l.length c, .agg #[.slice C1 p.length c1, .slice C2 L.length c2, .slice C3 R.length c3]] w fun e w' => e = .returned (I (verifyM n m l p L R)) ∧ Below w.heap.size w w' := by
  refine enterPlain tfine Try.func21 rfl 150 Try.ntmps21 [.c (.k (I n)), .c (.k (I m)), .c (.inp 1000 A l.length c), .agg [.inp 1001 C1 p.length c1, .inp 1002 C2 L.length c2, .inp 1003 C3 R.length c3]]
    [⟨1000, A, 2, l.length, elE l⟩, ⟨1001, C1, 2, p.length, elE p⟩, ⟨1002, C2, 1, L.length, elI L⟩, ⟨1003, C3, 1, R.length, elI R⟩] rfl rfl ⟨hl, h1, h2, h3, trivial⟩
    ⟨trivial, trivial, .inl ⟨rfl, rfl, rfl⟩, ⟨.inr ⟨nx rfl, .inl ⟨rfl, rfl, rfl⟩⟩, .inr ⟨nx rfl, .inr ⟨nx rfl, .inl ⟨rfl, rfl, rfl⟩⟩⟩, .inr ⟨nx rfl, .inr ⟨nx rfl, .inr ⟨nx rfl, .inl ⟨rfl, rfl, rfl⟩⟩⟩⟩, trivial⟩, trivial⟩ ?_
  refine G.seqR tfine rfl trivial ?_
  refine G.seq ?_
  refine G.seqC tfine rfl trivial ?_
  refine GO.callPlain (v := I (checkM n m l)) rfl rfl rfl rfl (fun args w => Try.call18 args w) (fun ρ w hs hok => refCheck_any n m A c l w (hs.row (cap := c) rfl (hok _ (List.mem_cons_of_mem _ (List.mem_cons_of_mem _ List.mem_cons_self)))) hm) ?_
  refine GO.fin tfine rfl trivial ?_
  refine G.cond (b := (checkM n m l != 0)) rfl (fun h => ?_) (fun h => ?_)
  · refine G.seqR tfine rfl trivial ?_
    refine G.ret (endK.ret rfl ?_)
    rw [verifyM, if_pos h]
  have hc0 : ¬(checkM n m l != 0) = true := fne h
  obtain ⟨V, hV⟩ : ∃ V, V = verifyM n m l p L R := ⟨_, rfl⟩
  have hV0 : V = if (((((!(pairsB l p)) || !(ascB L n)) || !(ascB R m)) || l.any (freeB L R)) || ((p.length : Int) != (L.length : Int) + (R.length : Int))) = true then 14 else 0 := by rw [hV, verifyM, if_neg hc0]
  rw [← hV]
  clear h hc0 hV
  refine G.skip ?_
  refine G.seq (G.seqR tfine rfl trivial ?_)
  refine G.block (G.loop (fun k : Nat => St.of [(0, .v (.c (.k (I n)))), (1, .v (.c (.k (I m)))), (2, .v (.c (.inp 1000 A l.length c))), (7, .v (.c (.ptr 7 0 0 0))), (9, .v (.c (.k (I k))))]
      [(7, .var 28 [.inp 1001 C1 p.length c1, .inp 1002 C2 L.length c2, .inp 1003 C3 R.length c3]), (1000, .ro 2 l.length (elE l)), (1001, .ro 2 p.length (elE p)), (1002, .ro 1 L.length (elI L)), (1003, .ro 1 R.length (elI R))])
    (fun k => k ≤ p.length ∧ pairsB l p = !((List.range' k (p.length - k)).any (badP l p))) (fun k => p.length - k) 0 ⟨by omega, rfl⟩ (St.le_of rfl ⟨⟨_, rfl, Blk.le_refl _⟩, ⟨_, rfl, Blk.le_refl _⟩, ⟨_, rfl, Blk.le_refl _⟩, ⟨_, rfl, Blk.le_refl _⟩, ⟨_, rfl, Blk.le_refl _⟩, trivial⟩ ⟨rfl, rfl, rfl, rfl, rfl, trivial⟩) ?_)
  rintro k ⟨hk, hfi⟩
  refine G.seq (G.seqR tfine rfl trivial ?_)
  refine G.cond rfl (fun h => ?_) (fun h => ?_)
  rotate_left
  · have h := of_decide_eq_false h
    have : k = p.length := by omega
    subst this
    rw [Nat.sub_self] at hfi
    have hfi : pairsB l p = true := by rw [hfi]; rfl
    rw [hfi] at hV0
    refine G.exit ?_
    refine G.seq ?_
    refine G.seqC tfine rfl trivial ?_
    refine GO.callPlain (v := .bool (ascB L n)) rfl rfl rfl rfl (fun args w => Try.call40 args w) (fun ρ w hs hok => refAscends_any n C2 c2 L w (hs.row (cap := c2) rfl (hok _ List.mem_cons_self)) m2) ?_
    refine GO.more tfine rfl ?_ ?_
    · first | trivial | (simp [AllP, condB]; done) | (simp only [AllP]; and_intros <;> first | trivial | decide | omega) | (simp [AllP, condB]; intros; and_intros <;> first | assumption | omega) | (simp [AllP, condB]; intros; simp_all; done) | (simp [AllP, condB]; intros; simp_all; omega) | (simp [AllP, condB]; omega)
    refine GO.callGuard (.bool (ascB R m)) rfl rfl rfl (by first | exact trivial | exact ⟨id, trivial⟩ | exact ⟨id, id, trivial⟩ | exact ⟨id, id, id, trivial⟩ | exact ⟨id, id, id, id, trivial⟩) rfl rfl (fun args w => Try.call40 args w) rfl (fun _ m' hle ρ w hs hok => refAscends_any m C3 c3 R w (hs.row (cap := c3) (hle.at rfl) (hok _ List.mem_cons_self)) m3) ?_
    refine GO.fin tfine rfl ?_ ?_
    · first | trivial | (simp [AllP, condB]; done) | (simp only [AllP]; and_intros <;> first | trivial | decide | omega) | (simp [AllP, condB]; intros; and_intros <;> first | assumption | omega) | (simp [AllP, condB]; intros; simp_all; done) | (simp [AllP, condB]; intros; simp_all; omega) | (simp [AllP, condB]; omega)
    rw [IntWalk.i64_in ((L.length : Int) + (R.length : Int)) (by omega)]
    have hne : (((L.length : Int) + (R.length : Int)) != (p.length : Int)) = ((p.length : Int) != (L.length : Int) + (R.length : Int)) := by
      rw [Bool.eq_iff_iff]; simp only [bne_iff_ne]; omega
    refine G.cond (b := ((!(ascB L n) || !(ascB R m)) || (((L.length : Int) + (R.length : Int)) != (p.length : Int)))) rfl (fun h5 => ?_) (fun h5 => ?_)
    · refine G.seqR tfine rfl trivial ?_
      refine G.ret (endK.ret rfl ?_)
      rw [hne] at h5
      rw [hV0, if_pos]
      simp only [Bool.or_eq_true, Bool.not_true, Bool.false_eq_true, false_or] at h5 ⊢
      rcases h5 with (h5 | h5) | h5 <;> simp only [h5, true_or, or_true]
    rw [hne] at h5
    simp only [Bool.or_eq_false_iff] at h5
    rw [h5.1.1, h5.1.2, h5.2] at hV0
    simp only [Bool.not_true, Bool.or_false, Bool.false_or] at hV0
    refine G.skip ?_
    refine G.seq (G.seqR tfine rfl trivial ?_)
    refine G.block (G.loop (fun i : Nat => St.of [(2, .v (.c (.inp 1000 A l.length c))), (7, .v (.c (.ptr 7 0 0 0))), (13, .v (.c (.k (I i))))]
        [(7, .var 28 [.inp 1001 C1 p.length c1, .inp 1002 C2 L.length c2, .inp 1003 C3 R.length c3]), (1000, .ro 2 l.length (elE l)), (1001, .ro 2 p.length (elE p)), (1002, .ro 1 L.length (elI L)), (1003, .ro 1 R.length (elI R))])
      (fun i => i ≤ l.length ∧ l.any (freeB L R) = (List.range' i (l.length - i)).any fun k => freeB L R (l.getD k (0, 0))) (fun i => l.length - i) 0 ⟨by omega, by rw [← any_getDE]; rfl⟩ (St.le_of rfl ⟨⟨_, rfl, Blk.le_refl _⟩, ⟨_, rfl, Blk.le_refl _⟩, ⟨_, rfl, Blk.le_refl _⟩, ⟨_, rfl, Blk.le_refl _⟩, ⟨_, rfl, Blk.le_refl _⟩, trivial⟩ ⟨rfl, rfl, rfl, trivial⟩) ?_)
    rintro i ⟨hi, hfr⟩
    refine G.seq (G.seqR tfine rfl trivial ?_)
    refine G.cond rfl (fun h6 => ?_) (fun h6 => ?_)
    rotate_left
    · have h6 := of_decide_eq_false h6
      have : i = l.length := by omega
      subst this
      refine G.exit ?_
      refine G.seqR tfine rfl trivial ?_
      refine G.ret (endK.ret rfl ?_)
      rw [hV0, hfr, Nat.sub_self]
      rfl
    have h6 := of_decide_eq_true h6
    have hlt : i < l.length := by omega
    rw [any_step hlt] at hfr
    obtain ⟨x, hx⟩ : ∃ x, x = (l.getD i (0, 0)).1 := ⟨_, rfl⟩
    obtain ⟨y, hy⟩ : ∃ y, y = (l.getD i (0, 0)).2 := ⟨_, rfl⟩
    have hxy : l.getD i (0, 0) = (x, y) := by rw [hx, hy]
    rw [hxy] at hfr
    refine G.skip ?_
    refine G.seq (G.block ?_)
    refine G.seqDraw hmix [0, 1, 0, 0, 12, 28, 60, 127, 255, 511, 1023, 2047, 1023, 1023, 13311, 29695, 62463, 131071, 262143, 524287] [] rfl rfl rfl ?_
    refine GD.more tfine 0 rfl rfl ⟨by simpa using hlt, by omega, by omega, trivial⟩ ?_
    rw [Int.toNat_natCast, ← hx]
    refine GD.call (v := .bool (L.any fun z => x == z)) 7 rfl rfl rfl rfl rfl (fun args w => Try.call41 args w) (fun m1 hle ρ w hs hok => has_any x C2 c2 L w (hs.row (cap := c2) (hle.at rfl) (hok _ List.mem_cons_self)) m2) ?_
    refine GD.more tfine 8 rfl rfl ?_ ?_
    · first | trivial | (simp [AllP, condB]; done) | (simp only [AllP]; and_intros <;> first | trivial | decide | omega) | (simp [AllP, condB]; intros; and_intros <;> first | assumption | omega) | (simp [AllP, condB]; intros; simp_all; done) | (simp [AllP, condB]; intros; simp_all; omega) | (simp [AllP, condB]; omega)
    rw [Int.toNat_natCast, ← hy]
    refine GD.callGuard (.bool (R.any fun z => y == z)) 17 rfl rfl rfl rfl (by first | exact trivial | exact ⟨id, trivial⟩ | exact ⟨id, id, trivial⟩ | exact ⟨id, id, id, trivial⟩ | exact ⟨id, id, id, id, trivial⟩) rfl rfl (fun args w => Try.call41 args w) rfl (fun _ m1 hle ρ w hs hok => has_any y C3 c3 R w (hs.row (cap := c3) (hle.at rfl) (hok _ List.mem_cons_self)) m3) ?_
    refine GD.fin tfine 18 rfl rfl ?_ ?_
    · first | trivial | (simp [AllP, condB]; done) | (simp only [AllP]; and_intros <;> first | trivial | decide | omega) | (simp [AllP, condB]; intros; and_intros <;> first | assumption | omega) | (simp [AllP, condB]; intros; simp_all; done) | (simp [AllP, condB]; intros; simp_all; omega) | (simp [AllP, condB]; omega)
    refine G.cond (b := freeB L R (x, y)) rfl (fun h7 => ?_) (fun h7 => ?_)
    · refine G.seqR tfine rfl trivial ?_
      refine G.ret (endK.ret rfl ?_)
      rw [hV0, hfr, h7]
      rfl
    rw [h7, Bool.false_or] at hfr
    refine G.skip ?_
    refine G.reg tfine rfl trivial ?_
    rw [IntWalk.i64_in ((i : Int) + 1) (by omega)]
    exact ⟨i + 1, ⟨by omega, hfr⟩, (by show l.length - (i + 1) < l.length - i; omega), St.le_of rfl ⟨⟨_, rfl, Blk.le_refl _⟩, ⟨_, rfl, Blk.le_refl _⟩, ⟨_, rfl, Blk.le_refl _⟩, ⟨_, rfl, Blk.le_refl _⟩, ⟨_, rfl, Blk.le_refl _⟩, trivial⟩ ⟨rfl, rfl, by simp [up, I], trivial⟩⟩
  have h := of_decide_eq_true h
  have hlt : k < p.length := by omega
  rw [any_step hlt, badP_eq] at hfi
  obtain ⟨x, hx⟩ : ∃ x, x = (p.getD k (0, 0)).1 := ⟨_, rfl⟩
  obtain ⟨y, hy⟩ : ∃ y, y = (p.getD k (0, 0)).2 := ⟨_, rfl⟩
  have hxy : p.getD k (0, 0) = (x, y) := by rw [hx, hy]
  refine G.skip ?_
  refine G.seq (G.block ?_)
  refine G.seqR tfine rfl trivial ?_
  refine G.seq (G.seqR tfine rfl trivial ?_)
  refine G.block (G.loop (fun j : Nat => St.of [(0, .v (.c (.k (I n)))), (1, .v (.c (.k (I m)))), (2, .v (.c (.inp 1000 A l.length c))), (7, .v (.c (.ptr 7 0 0 0))), (9, .v (.c (.k (I k)))), (10, .v (.c (.k (.bool (knB l (x, y) j))))), (11, .v (.c (.k (I j))))]
      [(7, .var 28 [.inp 1001 C1 p.length c1, .inp 1002 C2 L.length c2, .inp 1003 C3 R.length c3]), (1000, .ro 2 l.length (elE l)), (1001, .ro 2 p.length (elE p)), (1002, .ro 1 L.length (elI L)), (1003, .ro 1 R.length (elI R))])
    (fun j => j ≤ l.length) (fun j => l.length - j) 0 (Nat.zero_le _) (St.le_of rfl ⟨⟨_, rfl, Blk.le_refl _⟩, ⟨_, rfl, Blk.le_refl _⟩, ⟨_, rfl, Blk.le_refl _⟩, ⟨_, rfl, Blk.le_refl _⟩, ⟨_, rfl, Blk.le_refl _⟩, trivial⟩ ⟨rfl, rfl, rfl, rfl, rfl, rfl, rfl, trivial⟩) ?_)
  intro j hj
  refine G.seq (G.seqR tfine rfl trivial ?_)
  refine G.cond rfl (fun h4 => ?_) (fun h4 => ?_)
  · have h4 := of_decide_eq_true h4
    have hjl : j < l.length := by omega
    refine G.skip ?_
    refine G.seq (G.block ?_)
    refine G.draw (cls := [0, 1, 3, 3, 15, 31, 3, 67, 3, 451, 963, 2047, 4095, 8191]) (X := []) hmix rfl rfl rfl ?_
    refine GD.more tfine 0 rfl rfl ?_ ?_
    · first | trivial | (simp [AllP, condB]; done) | (simp only [AllP]; and_intros <;> first | trivial | decide | omega) | (simp [AllP, condB]; intros; and_intros <;> first | assumption | omega) | (simp [AllP, condB]; intros; simp_all; done) | (simp [AllP, condB]; intros; simp_all; omega) | (simp [AllP, condB]; omega)
    rw [Int.toNat_natCast, Int.toNat_natCast, ← hx, ← hy]
    refine GD.structEqG false [I (l.getD j (0, 0)).1, I (l.getD j (0, 0)).2] [I x, I y] (eqE (l.getD j (0, 0)) (x, y)) rfl cmpE 11 rfl rfl rfl rfl (by first | exact trivial | exact ⟨id, trivial⟩ | exact ⟨id, id, trivial⟩ | exact ⟨id, id, id, trivial⟩ | exact ⟨id, id, id, id, trivial⟩) rfl rfl rfl (by kernel_rfl) ?_
    refine GD.fin tfine 12 rfl rfl ?_ ?_
    · first | trivial | (simp [AllP, condB]; done) | (simp only [AllP]; and_intros <;> first | trivial | decide | omega) | (simp [AllP, condB]; intros; and_intros <;> first | assumption | omega) | (simp [AllP, condB]; intros; simp_all; done) | (simp [AllP, condB]; intros; simp_all; omega) | (simp [AllP, condB]; omega)
    refine G.reg tfine rfl trivial ?_
    rw [IntWalk.i64_in ((j : Int) + 1) (by omega)]
    exact ⟨j + 1, by omega, (by show l.length - (j + 1) < l.length - j; omega), St.le_of rfl ⟨⟨_, rfl, Blk.le_refl _⟩, ⟨_, rfl, Blk.le_refl _⟩, ⟨_, rfl, Blk.le_refl _⟩, ⟨_, rfl, Blk.le_refl _⟩, ⟨_, rfl, Blk.le_refl _⟩, trivial⟩ ⟨rfl, rfl, rfl, rfl, rfl, by rw [knB_succ]; rfl, by simp [up, I], trivial⟩⟩
  have h4 := of_decide_eq_false h4
  have : j = l.length := by omega
  subst this
  clear h4 hj
  have e0 : (IntKind.i64.wrap ((k : Int) - 1)).toNat = k - 1 := by
    rw [IntWalk.i64_in _ (by omega)]; omega
  rw [hxy] at hfi
  obtain ⟨kn, hkn⟩ : ∃ kn, kn = knB l (x, y) l.length := ⟨_, rfl⟩
  rw [← hkn] at hfi ⊢
  refine G.exit ?_
  refine G.seq ?_
  refine G.seqDraw hmix [0, 1, 3, 7, 15, 31, 63, 127, 63, 511, 1023, 63, 2111, 63, 8255, 30783, 63551, 131071, 262143, 524287, 1048575] [] rfl rfl rfl ?_
  refine GD.more tfine 0 rfl rfl ?_ ?_
  · rw [e0, IntWalk.i64_in ((k : Int) - 1) (by omega)]
    simp [AllP, condB]
    and_intros <;> intros <;> first | omega | (and_intros <;> assumption)
  rw [e0, Int.toNat_natCast, ← hx, ← hy]
  refine GD.callGuard (.bool (behB (x, y) (p.getD (k - 1) (0, 0)))) 17 rfl rfl rfl rfl (by first | exact trivial | exact ⟨id, trivial⟩ | exact ⟨id, id, trivial⟩ | exact ⟨id, id, id, trivial⟩ | exact ⟨id, id, id, id, trivial⟩) rfl rfl (fun args w => Try.call35 args w) rfl (fun _ m' hle ρ w hs hok => behind_any _ _ _ _ w) ?_
  refine GD.fin tfine 18 rfl rfl ?_ ?_
  · first | trivial | (simp [AllP, condB]; done) | (simp only [AllP]; and_intros <;> first | trivial | decide | omega) | (simp [AllP, condB]; intros; and_intros <;> first | assumption | omega) | (simp [AllP, condB]; intros; simp_all; done) | (simp [AllP, condB]; intros; simp_all; omega) | (simp [AllP, condB]; omega)
  refine G.cond (b := (!kn || (decide ((k : Int) > 0) && !behB (x, y) (p.getD (k - 1) (0, 0))))) rfl (fun h5 => ?_) (fun h5 => ?_)
  · refine G.seqR tfine rfl trivial ?_
    refine G.ret (endK.ret rfl ?_)
    rw [h5] at hfi
    rw [hV0, hfi]
    rfl
  rw [h5, Bool.false_or] at hfi
  refine G.skip ?_
  refine G.seqR tfine rfl trivial ?_
  refine G.block (G.loop (fun j : Nat => St.of [(0, .v (.c (.k (I n)))), (1, .v (.c (.k (I m)))), (2, .v (.c (.inp 1000 A l.length c))), (7, .v (.c (.ptr 7 0 0 0))), (9, .v (.c (.k (I k)))), (12, .v (.c (.k (I j))))]
      [(7, .var 28 [.inp 1001 C1 p.length c1, .inp 1002 C2 L.length c2, .inp 1003 C3 R.length c3]), (1000, .ro 2 l.length (elE l)), (1001, .ro 2 p.length (elE p)), (1002, .ro 1 L.length (elI L)), (1003, .ro 1 R.length (elI R))])
    (fun j => j ≤ k ∧ dupB p k j = false) (fun j => k - j) 0 ⟨Nat.zero_le _, rfl⟩ (St.le_of rfl ⟨⟨_, rfl, Blk.le_refl _⟩, ⟨_, rfl, Blk.le_refl _⟩, ⟨_, rfl, Blk.le_refl _⟩, ⟨_, rfl, Blk.le_refl _⟩, ⟨_, rfl, Blk.le_refl _⟩, trivial⟩ ⟨rfl, rfl, rfl, rfl, rfl, rfl, trivial⟩) ?_)
  rintro j ⟨hj, hd⟩
  refine G.seq (G.seqR tfine rfl trivial ?_)
  refine G.cond (b := decide ((j : Int) < (k : Int))) rfl (fun h6 => ?_) (fun h6 => ?_)
  rotate_left
  · have h6 := of_decide_eq_false h6
    have : j = k := by omega
    subst this
    rw [hd, Bool.false_or] at hfi
    refine G.exit ?_
    refine G.reg tfine rfl trivial ?_
    rw [IntWalk.i64_in ((j : Int) + 1) (by omega)]
    exact ⟨j + 1, ⟨by omega, hfi⟩, (by show p.length - (j + 1) < p.length - j; omega), St.le_of rfl ⟨⟨_, rfl, Blk.le_refl _⟩, ⟨_, rfl, Blk.le_refl _⟩, ⟨_, rfl, Blk.le_refl _⟩, ⟨_, rfl, Blk.le_refl _⟩, ⟨_, rfl, Blk.le_refl _⟩, trivial⟩ ⟨rfl, rfl, rfl, rfl, by simp [up, I], trivial⟩⟩
  have h6 := of_decide_eq_true h6
  have hjk : j < k := by omega
  have hds := dupB_succ p k j
  rw [hd, Bool.false_or, hxy] at hds
  refine G.skip ?_
  refine G.seq (G.block ?_)
  refine G.seqD tfine hmix [0, 1, 0, 7, 15, 31, 0, 64, 0, 448, 960, 1984, 4095, 8191, 16383, 32767, 16383, 131071, 262143, 524287, 16383, 1064959, 16383, 7356415, 15745023, 32522239, 67108863, 134217727] [] rfl rfl rfl rfl ?_ ?_
  · first | trivial | (simp [AllP, condB]; done) | (simp only [AllP]; and_intros <;> first | trivial | decide | omega) | (simp [AllP, condB]; intros; and_intros <;> first | assumption | omega) | (simp [AllP, condB]; intros; simp_all; done) | (simp [AllP, condB]; intros; simp_all; omega) | (simp [AllP, condB]; omega)
  rw [Int.toNat_natCast, Int.toNat_natCast, ← hx, ← hy]
  refine G.cond (b := (((p.getD j (0, 0)).1 == x) || ((p.getD j (0, 0)).2 == y))) rfl (fun h7 => ?_) (fun h7 => ?_)
  · refine G.seqR tfine rfl trivial ?_
    refine G.ret (endK.ret rfl ?_)
    have hd2 : dupB p k k = true := by
      have h8 : dupB p k (j + 1) = true := by rw [hds]; exact h7
      unfold dupB at h8 ⊢
      obtain ⟨i, hi, hq⟩ := List.any_eq_true.1 h8
      refine List.any_eq_true.2 ⟨i, ?_, hq⟩
      have := List.mem_range.1 hi
      exact List.mem_range.2 (by omega)
    rw [hd2] at hfi
    rw [hV0, hfi]
    rfl
  refine G.skip ?_
  refine G.reg tfine rfl trivial ?_
  rw [IntWalk.i64_in ((j : Int) + 1) (by omega)]
  exact ⟨j + 1, ⟨by omega, by rw [hds]; exact h7⟩, (by show k - (j + 1) < k - j; omega), St.le_of rfl ⟨⟨_, rfl, Blk.le_refl _⟩, ⟨_, rfl, Blk.le_refl _⟩, ⟨_, rfl, Blk.le_refl _⟩, ⟨_, rfl, Blk.le_refl _⟩, ⟨_, rfl, Blk.le_refl _⟩, trivial⟩ ⟨rfl, rfl, rfl, rfl, rfl, by simp [up, I], trivial⟩⟩
end Go.Proofs.Ytnoejcejkdkaeaa
/- Chapter 37: the law MatchVerifies. -/
set_option linter.unusedVariables false
set_option linter.unusedSimpArgs false
set_option maxRecDepth 8000
set_option maxHeartbeats 1000000
namespace Go.Proofs.Ytnoejcejkdkaeaa
open Go.Sx Go.RowKit Mt
theorem MatchVerifies_any (n m : Int) (A : Option Addr) (c : Nat) (l : List EI) (C1 C2 C3 : Option Addr) (c1 c2 c3 : Nat) (p : List EI) (L R : List Int) (w : World) (hl : RdRow w A l.length 2 (elE l)) (h1 : RdRow w C1 p.length 2 (elE p)) (h2 : RdRow w C2 L.length 1 (elI L)) (h3 : RdRow w C3 R.length 1 (elI R)) :
    Calls Try.prog 5 #[.agg #[I n, I m], .slice A l.length c, .agg #[.slice C1 p.length c1, .slice C2 L.length c2, .slice C3 R.length c3]] w fun e w' => e = .returned (.bool true) ∧ Below w.heap.size w w' := by
  refine enterPlain tfine Try.func5 rfl 47 Try.ntmps5 [.agg [.k (I n), .k (I m)], .c (.inp 1000 A l.length c), .agg [.inp 1001 C1 p.length c1, .inp 1002 C2 L.length c2, .inp 1003 C3 R.length c3]]
    [⟨1000, A, 2, l.length, elE l⟩, ⟨1001, C1, 2, p.length, elE p⟩, ⟨1002, C2, 1, L.length, elI L⟩, ⟨1003, C3, 1, R.length, elI R⟩] rfl rfl ⟨hl, h1, h2, h3, trivial⟩
    ⟨⟨trivial, trivial, trivial⟩, .inl ⟨rfl, rfl, rfl⟩, ⟨.inr ⟨nx rfl, .inl ⟨rfl, rfl, rfl⟩⟩, .inr ⟨nx rfl, .inr ⟨nx rfl, .inl ⟨rfl, rfl, rfl⟩⟩⟩, .inr ⟨nx rfl, .inr ⟨nx rfl, .inr ⟨nx rfl, .inl ⟨rfl, rfl, rfl⟩⟩⟩⟩, trivial⟩, trivial⟩ ?_
  refine G.seqR tfine rfl trivial ?_
  refine G.seq ?_
  refine G.seqC tfine rfl trivial ?_
  refine GO.callPlain (v := .bool true) rfl rfl rfl rfl (fun args w => Try.call10 args w) (fun ρ w hs hok => awake_any w) ?_
  refine GO.fin tfine rfl trivial ?_
  refine G.cond_false rfl ?_
  refine G.skip ?_
  refine G.seq ?_
  refine G.seqC tfine rfl trivial ?_
  refine GO.callPlain (v := .bool (fewB l)) rfl rfl rfl rfl (fun args w => Try.call14 args w) (fun ρ w hs hok => few_any A c l w (hs.row (cap := c) rfl (hok _ List.mem_cons_self))) ?_
  refine GO.fin tfine rfl ?_ ?_
  · first | trivial | (simp [AllP, condB]; done) | (simp only [AllP]; and_intros <;> first | trivial | decide | omega) | (simp [AllP, condB]; intros; and_intros <;> first | assumption | omega) | (simp [AllP, condB]; intros; simp_all; done) | (simp [AllP, condB]; intros; simp_all; omega) | (simp [AllP, condB]; omega)
  refine G.cond (b := ((!(fewB l) || decide ((p.length : Int) > 30)) || decide ((L.length : Int) > 30)) || decide ((R.length : Int) > 30)) rfl (fun h => ?_) (fun h => ?_)
  · refine G.seqR tfine rfl trivial ?_
    exact G.ret (endK.ret rfl rfl)
  have hm : l.length ≤ 1000000 ∧ p.length ≤ 1000000 ∧ L.length ≤ 1000000 ∧ R.length ≤ 1000000 := by simp [fewB] at h; omega
  obtain ⟨hm, m1, m2, m3⟩ := hm
  refine G.skip ?_
  refine G.seqDraw hmix [0, 1, 0, 4, 0, 16, 0, 112, 255, 0, 512, 0, 2048, 0, 0, 32767, 65535, 131071] [(5, 800), (5, 850), (7, 801), (7, 851), (7, 802), (7, 852), (7, 803), (7, 853)] rfl rfl rfl ?_
  refine GD.more tfine 0 rfl rfl trivial ?_
  refine GD.callAns [.c (.r l.length 2 (elE l))] [800] 5 rfl rfl rfl rfl rfl ⟨rfl, rfl, rfl, trivial⟩ rfl (fun args w => Try.call15 args w) (fun m1 hle ρ w hs hok => cloneEI_any A c l w (hs.row (cap := c) (hle.at rfl) (hok _ List.mem_cons_self)) hm) ?_
  refine GD.more tfine 6 rfl rfl trivial ?_
  refine GD.callAns [.agg [.r p.length 2 (elE p), .r L.length 1 (elI L), .r R.length 1 (elI R)]] [801, 802, 803] 7 rfl rfl rfl rfl rfl ⟨rfl, rfl, rfl, rfl, rfl, rfl, rfl, rfl, rfl, trivial⟩ rfl (fun args w => Try.call20 args w) (fun m' hle ρ w hs hok => ?_) ?_
  · have o := hok _ List.mem_cons_self
    exact cp_any C1 C2 C3 c1 c2 c3 p L R w (hs.row (cap := c1) (hle.at rfl) (o _ List.mem_cons_self)) (hs.row (cap := c2) (hle.at rfl) (o _ (List.mem_cons_of_mem _ List.mem_cons_self))) (hs.row (cap := c3) (hle.at rfl) (o _ (List.mem_cons_of_mem _ (List.mem_cons_of_mem _ List.mem_cons_self)))) m1 m2 m3
  refine GD.call (v := I (verifyM n m l p L R)) 8 rfl rfl rfl rfl rfl (fun args w => Try.call19 args w) (fun m' hle ρ w hs hok => ?_) ?_
  · have o3 := hok _ (List.mem_cons_of_mem _ (List.mem_cons_of_mem _ (List.mem_cons_of_mem _ List.mem_cons_self)))
    exact Verify_any n m (rowAd ρ 800) (ρ 850).1 l (rowAd ρ 801) (rowAd ρ 802) (rowAd ρ 803) (ρ 851).1 (ρ 852).1 (ρ 853).1 p L R w (hs.rowR (hle.at rfl) (hok _ (List.mem_cons_of_mem _ (List.mem_cons_of_mem _ List.mem_cons_self))) (Nat.le_refl _)) (hs.rowR (hle.at rfl) (o3 _ List.mem_cons_self) (Nat.le_refl _)) (hs.rowR (hle.at rfl) (o3 _ (List.mem_cons_of_mem _ List.mem_cons_self)) (Nat.le_refl _)) (hs.rowR (hle.at rfl) (o3 _ (List.mem_cons_of_mem _ (List.mem_cons_of_mem _ List.mem_cons_self))) (Nat.le_refl _)) hm m1 m2 m3
  refine GD.more tfine 9 rfl rfl trivial ?_
  refine GD.call (v := I (verifyM n m l p L R)) 15 rfl rfl rfl rfl rfl (fun args w => Try.call21 args w) (fun m' hle ρ w hs hok => ?_) ?_
  · have o3 := hok _ (List.mem_cons_of_mem _ (List.mem_cons_of_mem _ (List.mem_cons_of_mem _ List.mem_cons_self)))
    exact refVerify_any n m A c l C1 C2 C3 c1 c2 c3 p L R w (hs.row (cap := c) (hle.at rfl) (hok _ (List.mem_cons_of_mem _ (List.mem_cons_of_mem _ List.mem_cons_self)))) (hs.row (cap := c1) (hle.at rfl) (o3 _ List.mem_cons_self)) (hs.row (cap := c2) (hle.at rfl) (o3 _ (List.mem_cons_of_mem _ List.mem_cons_self))) (hs.row (cap := c3) (hle.at rfl) (o3 _ (List.mem_cons_of_mem _ (List.mem_cons_of_mem _ List.mem_cons_self)))) hm m1 m2 m3
  refine GD.fin tfine 16 rfl rfl trivial ?_
  refine G.ret (endK.ret rfl ?_)
  simp
end Go.Proofs.Ytnoejcejkdkaeaa
/- The symbolic executor, part AF: maps from numbers to true (sets of numbers): made, asked, grown. Generic over P. -/
set_option linter.unusedVariables false
set_option linter.unusedSimpArgs false
namespace Go.Sx
open Go.RowKit
structure MpT (P : Program) (t kt et : TypeId) : Prop where
  hm : P.underlying t = some (.map kt et)
  hk : P.underlying kt = some (.int .i64)
  he : ∀ w : World, (zeroValue et).run P w = .ok (.bool false) w
/-- A map that holds true under just the numbers of a set. -/
def ISet (S : Int → Bool) (o : Obj) : Prop := ∃ es clock, o = .map es clock ∧ (∀ e ∈ es.toList, ∃ n, e.key = .int .i64 n ∧ e.val = .bool true ∧ S n = true) ∧ ∀ n, S n = true → ∃ e ∈ es.toList, e.key = .int .i64 n
theorem findNow_set (n : Int) : ∀ (l : List MapEntry) (i : Nat), (∀ e ∈ l, ∃ m, e.key = .int .i64 m ∧ e.val = .bool true) →
    (Instr.findNow (.int .i64) (.int .i64 n) l i = some none ∧ ∀ e ∈ l, e.key ≠ .int .i64 n) ∨ ∃ j, Instr.findNow (.int .i64) (.int .i64 n) l i = some (some (j, .bool true)) ∧ ∃ e ∈ l, e.key = .int .i64 n := by
  intro l
  induction l with
  | nil => intro i _; exact .inl ⟨rfl, fun e h => by cases h⟩
  | cons a r ih =>
    intro i h
    obtain ⟨m, h1, h2⟩ := h a (.head _)
    by_cases e : n = m
    · subst e
      refine .inr ⟨i, ?_, a, .head _, h1⟩
      simp [Instr.findNow, Instr.sameNow, h1, h2]
    · have hn : Instr.findNow (.int .i64) (.int .i64 n) (a :: r) i = Instr.findNow (.int .i64) (.int .i64 n) r (i + 1) := by
        have h3 : Instr.sameNow (.int .i64) (.int .i64 n) a.key = some false := by rw [h1]; simp [Instr.sameNow, e]
        rw [Instr.findNow, h3]
      rw [hn]
      rcases ih (i + 1) fun x hx => h x (.tail _ hx) with ⟨k1, k2⟩ | ⟨j, k1, x, hx, k2⟩
      · refine .inl ⟨k1, fun x hx => ?_⟩
        cases hx with
        | head => rw [h1]; intro hc; injection hc with _ hc; exact e hc.symm
        | tail _ hx => exact k2 x hx
      · exact .inr ⟨j, k1, x, .tail _ hx, k2⟩
section
variable {P : Program} {t kt et : TypeId} {w : World} {r : Nat} {S : Int → Bool} {o : Obj}
theorem run_lookup_set (hp : MpT P t kt et) (hb : w.heap[r]? = some o) (ho : ISet S o) (n : Int) : (Instr.lookup t (.map (some r)) (.int .i64 n) false).run P w = .ok (.bool (S n)) w := by
  obtain ⟨es, clock, rfl, h1, h2⟩ := ho
  have hc : ∀ em, (Instr.checkKey em 10000 kt (.int .i64 n)).run P w = .ok () w := fun em => MapKept.run_checkKey hp.hk (by trivial) em 9999
  rcases findNow_set n es.toList 0 (fun e he => by obtain ⟨m, a, b, _⟩ := h1 e he; exact ⟨m, a, b⟩) with ⟨k1, k2⟩ | ⟨j, k1, e, he, k2⟩
  · have hS : S n = false := by
      cases hs : S n with
      | false => rfl
      | true =>
        obtain ⟨e, he, hk⟩ := h2 n hs
        exact absurd hk (k2 e he)
    rw [hS]
    simp [Instr.lookup, run_underlying hp.hm, MapKept.run_getObj_map hb, hc, MapKept.run_findKey hp.hk k1, hp.he, Result.andThen]
  · have hS : S n = true := by
      obtain ⟨m, a, _, b⟩ := h1 e he
      rw [k2] at a
      injection a with _ a
      rw [a]; exact b
    rw [hS]
    simp [Instr.lookup, run_underlying hp.hm, MapKept.run_getObj_map hb, hc, MapKept.run_findKey hp.hk k1, Result.andThen]
theorem run_update_set (hp : MpT P t kt et) (hb : w.heap[r]? = some o) (ho : ISet S o) {n : Int} (hn : S n = false) {S2 : Int → Bool} (hS : ∀ q, S2 q = (S q || (q == n))) :
    ∃ o', (Instr.mapUpdate t (.map (some r)) (.int .i64 n) (.bool true)).run P w = .ok () { w with heap := w.heap.setIfInBounds r o' } ∧ ISet S2 o' := by
  obtain ⟨es, clock, rfl, h1, h2⟩ := ho
  have hc : ∀ em, (Instr.checkKey em 10000 kt (.int .i64 n)).run P w = .ok () w := fun em => MapKept.run_checkKey hp.hk (by trivial) em 9999
  rcases findNow_set n es.toList 0 (fun e he => by obtain ⟨m, a, b, _⟩ := h1 e he; exact ⟨m, a, b⟩) with ⟨k1, k2⟩ | ⟨j, k1, e, he, k2⟩
  · refine ⟨.map (es.push ⟨.int .i64 n, .bool true, clock⟩) (clock + 1), ?_, _, _, rfl, fun e he => ?_, fun q hq => ?_⟩
    · simp [Instr.mapUpdate, run_underlying hp.hm, MapKept.run_getObj_map hb, hc, MapKept.run_findKey hp.hk k1, MapKept.run_setObj_map _ hb, Result.andThen]
    · simp only [Array.toList_push, List.mem_append, List.mem_singleton] at he
      rcases he with he | rfl
      · obtain ⟨m, a, b, c⟩ := h1 e he
        exact ⟨m, a, b, by rw [hS, c]; rfl⟩
      · exact ⟨n, rfl, rfl, by rw [hS]; simp⟩
    · rw [hS, Bool.or_eq_true] at hq
      simp only [Array.toList_push, List.mem_append, List.mem_singleton]
      rcases hq with hq | hq
      · obtain ⟨e, he, hk⟩ := h2 q hq
        exact ⟨e, .inl he, hk⟩
      · simp only [beq_iff_eq] at hq
        exact ⟨_, .inr rfl, by rw [hq]⟩
  · obtain ⟨m, a, _, b⟩ := h1 e he
    rw [k2] at a
    injection a with _ a
    rw [← a, hn] at b
    cases b
end
section
variable {P : Program} {E : Env} {K : Exit → St → Prop} {T : Tab}
theorem Sat.mapAt {ρ : Val} {m : Mem} {w : World} (h : SatM E ρ m w) {x : Nat} {Q : Obj → Prop} (hx : m x = some (.obj Q)) : ∃ o, w.heap[(ρ x).1]? = some o ∧ Q o := (h.ok x _ hx).2.2
theorem GO.makeMap {ops : Array Oper} {rest : List Oper} {o : Oper} {t d : Nat} {t0 : Nat → TV} {m : Mem} (S : Int → Bool) (hS : ∀ n, S n = false) (hg : o.guard = none) (hop : o.op = .makeMap t none) (hd : o.dst = some d) (hdN : Nat.blt d E.N = true) (hx : m d = none) (hxb : Nat.blt d 1000 = true)
    (k : GO P E ops K rest ⟨up t0 d (.v (.c (.mp d))), up m d (some (.obj (ISet S)))⟩) : GO P E ops K (o :: rest) ⟨t0, m⟩ := by
  intro ρ a w hs
  have hrun : (execOp a.eval o).run P w = .ok (.value (.map (some w.heap.size))) (w.alloc (.map #[] 0)) := by
    simp [execOp, hop, Instr.makeMap]
  unfold wpList
  rw [if_pos (by simp [Region.wanted, hg])]
  refine .inl ?_
  have hxb : d < 1000 := by simpa [Nat.blt_eq] using hxb
  refine Snd.go hs (fun n hn => by rw [hd] at hn; injection hn with hn; subst hn; simpa [Nat.blt_eq] using hdN) (tv := .v (.c (.mp d)))
    (Snd.new hx (hs.mem.alloc hx hxb (.obj (ISet S)) (.map #[] 0) fun ρ' h1 h2 => ⟨by rw [h2], .inl (by rw [h2]; exact hs.mem.fr.size), .map #[] 0, by rw [h2]; exact heap_alloc_new _ _, #[], 0, rfl, fun e he => by simp at he, fun n hn => by rw [hS] at hn; cases hn⟩) hrun ⟨by simp [AV.ok, AC.ok, up_same], by simp [AV.conc, AC.conc, up_same]⟩) fun ρ' a' w' hs' => k ρ' a' w' ?_
  rw [hd] at hs'
  exact hs'
theorem GO.lookupG {ops : Array Oper} {rest : List Oper} {o : Oper} {t kt et j : Nat} {y i : Operand} {want cb : Bool} {t0 : Nat → TV} {m : Mem} (x : Nat) (S : Int → Bool) (n : Int) (hp : MpT P t kt et) (hg : o.guard = some (j, want)) (hb : guardB ops t0 j want = some cb) (hop : o.op = .lookup t y i false)
    (hob : AllP (stripObs t0 j want cb (slotsOf o.op.operands.toList))) (hy : evG t0 j want (slotsOf o.op.operands.toList) y = .v (.c (.mp x))) (hi : evG t0 j want (slotsOf o.op.operands.toList) i = .v (.c (.k (.int .i64 n)))) (hx : m x = some (.obj (ISet S))) (hd : dstOk E.N o.dst = true)
    (k : GO P E ops K rest ⟨Sx.putT t0 o.dst (.grd j want cb (.c (.k (.bool (S n))))), m⟩) : GO P E ops K (o :: rest) ⟨t0, m⟩ := by
  refine GO.steps (tv := .grd j want cb (.c (.k (.bool (S n))))) (ms := []) ?_ k
  intro st hle ρ a w hs Kc Q hk
  have hs' := hs.weakT hle.t
  have hw := wanted_cond (ops := ops) hs' hg hb
  rw [hw]
  cases hcb : cb with
  | true =>
    subst hcb
    rw [if_pos rfl]
    have hev := fun y => evG_rep hs' hob rfl y
    have e1 : a.eval y = .map (some (ρ x).1) := by have := hev y; rw [hy] at this; exact this.2
    have e2 : a.eval i = .int .i64 n := by have := hev i; rw [hi] at this; exact this.2
    have hx2 : st.m x = some (.obj (ISet S)) := by
      rcases hle.m x with h | h
      · rw [show (St.mk t0 m).m x = m x from rfl, hx] at h; cases h
      · exact h.trans hx
    obtain ⟨ob, h1, h2⟩ := Sat.mapAt hs.mem hx2
    have hrun : (execOp a.eval o).run P w = .ok (.value (.bool (S n))) w := by
      simp [execOp, hop, e1, e2, run_lookup_set hp h1 h2 n, Result.andThen]
    exact Snd.go hs (dstOk_lt hd) (tv := .grd j want true (.c (.k (.bool (S n))))) (Snd.here hs.mem (v := .bool (S n)) hrun ⟨fun _ => ⟨trivial, rfl⟩, fun hf => by cases hf⟩) fun ρ' a' w' hs'' => hk ρ' a' w' hs''
  | false =>
    subst hcb
    rw [if_neg (by simp)]
    exact hk ρ _ w (hs.putT (dstOk_lt hd) ⟨fun hf => (by cases hf), fun _ => rfl⟩)
theorem Steps.mapNew {ops : Array Oper} {o : Oper} {t kt et : Nat} {y i : Operand} {C : St} (x : Nat) (S S2 : Int → Bool) (n : Int) (hp : MpT P t kt et) (hg : o.guard = none) (hop : o.op = .mapUpdate t y i (.const (.bool true))) (hd : o.dst = none)
    (hy : evT C.t y = .v (.c (.mp x))) (hi : evT C.t i = .v (.c (.k (.int .i64 n)))) (hx : C.m x = some (.obj (ISet S))) (hn : S n = false) (hS : ∀ q, S2 q = (S q || (q == n))) : Steps P E ops o C .unk [(x, .obj (ISet S2))] := by
  intro st hle ρ a w hs Kc Q hk
  have hs' := hs.weakT hle.t
  rw [if_pos (by simp [Region.wanted, hg])]
  have e1 : a.eval y = .map (some (ρ x).1) := by have := hs'.eval y; rw [show (St.mk C.t st.m).ev y = .v (.c (.mp x)) from hy] at this; exact this.2
  have e2 : a.eval i = .int .i64 n := by have := hs'.eval i; rw [show (St.mk C.t st.m).ev i = .v (.c (.k (.int .i64 n))) from hi] at this; exact this.2
  have hx2 : st.m x = some (.obj (ISet S)) := by
    rcases hle.m x with h | h
    · rw [hx] at h; cases h
    · exact h.trans hx
  obtain ⟨ob, h1, h2⟩ := Sat.mapAt hs.mem hx2
  obtain ⟨o', h3, h4⟩ := run_update_set hp h1 h2 hn hS
  have hrun : (execOp a.eval o).run P w = .ok .skip { w with heap := w.heap.setIfInBounds (ρ x).1 o' } := by
    have e3 : a.eval (.const (.bool true)) = .bool true := rfl
    simp [execOp, hop, e1, e2, e3, h3, Result.andThen]
  have hk0 := hs.mem.ok x _ hx2
  have hlt := lt_of_heap h1
  have hmem : SatM E ρ (up st.m x (some (.obj (ISet S2)))) { w with heap := w.heap.setIfInBounds (ρ x).1 o' } := by
    refine hs.mem.put hx2 trivial trivial ⟨hs.mem.fr.os, hs.mem.fr.tape, hs.mem.fr.output, by simpa using hs.mem.fr.size, fun g hg1 hg2 => ?_⟩ (by simp) (fun g hg => ?_) ⟨hk0.1, hk0.2.1, o', ?_, h4⟩
    · have hne : (ρ x).1 ≠ g := by
        rcases mem_bor hk0.2.1 with h | h
        · omega
        · exact fun e => hg2 (e ▸ h)
      simp only [Array.getElem?_setIfInBounds_ne hne]
      exact hs.mem.fr.block g hg1 hg2
    · simp only [Array.getElem?_setIfInBounds_ne (Ne.symm hg)]
    · simp [Array.getElem?_setIfInBounds, hlt]
  have hsome : ∀ z, (st.m z).isSome = true → (up st.m x (some (.obj (ISet S2))) z).isSome = true := fun z hz => isSome_up z hz
  unfold Oper.wp
  rw [hrun]
  refine hk ρ _ _ ?_
  rw [upm_one]
  exact (hs.move hmem hsome fun _ _ => rfl).putT (fun q hq => by rw [hd] at hq; cases hq) (tv := .unk) trivial
theorem GD.mapNew {l : List Oper} {cls : List Nat} {X : List (Nat × Nat)} {base : St} {recs : List DR} {rest : List Oper} {tt : Nat → TV} {m : Mem} {o : Oper} {t kt et : Nat} {y ix : Operand} (x : Nat) (S S2 : Int → Bool) (n : Int) (i : Nat) (hi : recs.length = i) (hp : MpT P t kt et) (hg : o.guard = none) (hop : o.op = .mapUpdate t y ix (.const (.bool true))) (hd : o.dst = none)
    (hy : evT (canF l cls X base i recs).t y = .v (.c (.mp x))) (hix : evT (canF l cls X base i recs).t ix = .v (.c (.k (.int .i64 n)))) (hx : (canF l cls X base i recs).m x = some (.obj (ISet S))) (hn : S n = false) (hS : ∀ q, S2 q = (S q || (q == n))) (hw : Wok X i o [(x, .obj (ISet S2))] = true)
    (k : GD P E K l cls X base (⟨o, .unk, [(x, .obj (ISet S2))]⟩ :: recs) rest (Sx.putT tt o.dst .unk) (upm m [(x, .obj (ISet S2))])) : GD P E K l cls X base recs (o :: rest) tt m := by
  rw [canF_eq hi] at hy hix hx
  exact GD.step (Steps.mapNew x S S2 n hp hg hop hd hy hix hx hn hS) (by rw [hi]; exact hw) k
end
end Go.Sx
/- Chapter 37: what the law MatchProves asks of a matching. -/
set_option linter.unusedVariables false
set_option linter.unusedSimpArgs false
set_option maxRecDepth 8000
set_option maxHeartbeats 1000000
namespace Go.Proofs.Ytnoejcejkdkaeaa
open Go.Sx Go.RowKit Mt
def badV (l p : List EI) (k : Nat) : Bool := (!(l.any (eqE (p.getD k (0, 0)))) || dupL p k (p.getD k (0, 0)).1) || dupR p k (p.getD k (0, 0)).2
def provesB (l p : List EI) (L R : List Int) : Bool := !((List.range' 0 p.length).any (badV l p)) && (!(l.any (freeB L R)) && ((L.length : Int) + (R.length : Int) == (p.length : Int)))
theorem mpT : MpT Try.prog 68 3 4 := ⟨by kernel_rfl, by kernel_rfl, fun w => by kernel_rfl⟩
theorem beqc (x q : Int) : (x == q) = (q == x) := by
  rw [Bool.eq_iff_iff]
  simp only [beq_iff_eq]
  omega
theorem proves_any (A : Option Addr) (c : Nat) (l : List EI) (C1 C2 C3 : Option Addr) (c1 c2 c3 : Nat) (p : List EI) (L R : List Int) (w : World) (hl : RdRow w A l.length 2 (elE l)) (h1 : RdRow w C1 p.length 2 (elE p)) (h2 : RdRow w C2 L.length 1 (elI L)) (h3 : RdRow w C3 R.length 1 (elI R))
    (hm : l.length ≤ 1000000) (m1 : p.length ≤ 1000000) (m2 : L.length ≤ 1000000) (m3 : R.length ≤ 1000000) :
    Calls Try.prog 22 #[.slice A l.length c, .agg #[.slice C1 p.length c1, .slice C2 L.length c2, .slice C3 R.length c3]] w fun e w' => e = .returned (.bool (provesB l p L R)) ∧ Below w.heap.size w w' := by
  refine enterPlain tfine Try.func22 rfl 75 Try.ntmps22 [.c (.inp 1000 A l.length c), .agg [.inp 1001 C1 p.length c1, .inp 1002 C2 L.length c2, .inp 1003 C3 R.length c3]]
    [⟨1000, A, 2, l.length, elE l⟩, ⟨1001, C1, 2, p.length, elE p⟩, ⟨1002, C2, 1, L.length, elI L⟩, ⟨1003, C3, 1, R.length, elI R⟩] rfl rfl ⟨hl, h1, h2, h3, trivial⟩
    ⟨.inl ⟨rfl, rfl, rfl⟩, ⟨.inr ⟨nx rfl, .inl ⟨rfl, rfl, rfl⟩⟩, .inr ⟨nx rfl, .inr ⟨nx rfl, .inl ⟨rfl, rfl, rfl⟩⟩⟩, .inr ⟨nx rfl, .inr ⟨nx rfl, .inr ⟨nx rfl, .inl ⟨rfl, rfl, rfl⟩⟩⟩⟩, trivial⟩, trivial⟩ ?_
  refine G.seqR tfine rfl trivial ?_
  refine G.seqC tfine rfl trivial ?_
  refine GO.makeMap (dupL p 0) (fun n => by simp [dupL]) rfl rfl rfl rfl rfl rfl ?_
  refine GO.makeMap (dupR p 0) (fun n => by simp [dupR]) rfl rfl rfl rfl rfl rfl ?_
  refine GO.fin tfine rfl trivial ?_
  refine G.seq (G.seqR tfine rfl trivial ?_)
  refine G.block (G.loop (fun k : Nat => St.of [(0, .v (.c (.inp 1000 A l.length c))), (3, .v (.c (.ptr 3 0 0 0))), (5, .v (.c (.mp 11))), (6, .v (.c (.mp 12))), (14, .v (.c (.inp 1001 C1 p.length c1))), (15, .v (.c (.k (I p.length)))), (16, .v (.c (.k (I k))))]
      [(3, .var 28 [.inp 1001 C1 p.length c1, .inp 1002 C2 L.length c2, .inp 1003 C3 R.length c3]), (11, .obj (ISet (dupL p k))), (12, .obj (ISet (dupR p k))), (1000, .ro 2 l.length (elE l)), (1001, .ro 2 p.length (elE p)), (1002, .ro 1 L.length (elI L)), (1003, .ro 1 R.length (elI R))])
    (fun k => k ≤ p.length ∧ (List.range' 0 p.length).any (badV l p) = (List.range' k (p.length - k)).any (badV l p)) (fun k => p.length - k) 0 ⟨by omega, rfl⟩ (St.le_of rfl ⟨⟨_, rfl, Blk.le_refl _⟩, ⟨_, rfl, Blk.le_refl _⟩, ⟨_, rfl, Blk.le_refl _⟩, ⟨_, rfl, Blk.le_refl _⟩, ⟨_, rfl, Blk.le_refl _⟩, ⟨_, rfl, Blk.le_refl _⟩, ⟨_, rfl, Blk.le_refl _⟩, trivial⟩ ⟨rfl, rfl, rfl, rfl, rfl, rfl, rfl, trivial⟩) ?_)
  rintro k ⟨hk, hfi⟩
  refine G.seqR tfine rfl trivial ?_
  refine G.seq (G.cond (b := decide ((k : Int) < (p.length : Int))) rfl (fun h => ?_) (fun h => ?_))
  rotate_left
  · have h := of_decide_eq_false h
    have : k = p.length := by omega
    subst this
    rw [Nat.sub_self] at hfi
    have hV0 : provesB l p L R = (!(l.any (freeB L R)) && ((L.length : Int) + (R.length : Int) == (p.length : Int))) := by rw [provesB, hfi]; rfl
    refine G.exit ?_
    refine G.seq (G.seqR tfine rfl trivial ?_)
    refine G.block (G.loop (fun i : Nat => St.of [(0, .v (.c (.inp 1000 A l.length c))), (3, .v (.c (.ptr 3 0 0 0))), (43, .v (.c (.inp 1000 A l.length c))), (44, .v (.c (.k (I l.length)))), (45, .v (.c (.k (I i))))]
        [(3, .var 28 [.inp 1001 C1 p.length c1, .inp 1002 C2 L.length c2, .inp 1003 C3 R.length c3]), (1000, .ro 2 l.length (elE l)), (1001, .ro 2 p.length (elE p)), (1002, .ro 1 L.length (elI L)), (1003, .ro 1 R.length (elI R))])
      (fun i => i ≤ l.length ∧ l.any (freeB L R) = (List.range' i (l.length - i)).any fun k => freeB L R (l.getD k (0, 0))) (fun i => l.length - i) 0 ⟨by omega, by rw [← any_getDE]; rfl⟩ (St.le_of rfl ⟨⟨_, rfl, Blk.le_refl _⟩, ⟨_, rfl, Blk.le_refl _⟩, ⟨_, rfl, Blk.le_refl _⟩, ⟨_, rfl, Blk.le_refl _⟩, ⟨_, rfl, Blk.le_refl _⟩, trivial⟩ ⟨rfl, rfl, rfl, rfl, rfl, trivial⟩) ?_)
    rintro i ⟨hi, hfr⟩
    refine G.seqR tfine rfl trivial ?_
    refine G.seq (G.cond (b := decide ((i : Int) < (l.length : Int))) rfl (fun h6 => ?_) (fun h6 => ?_))
    rotate_left
    · have h6 := of_decide_eq_false h6
      have : i = l.length := by omega
      subst this
      rw [Nat.sub_self] at hfr
      refine G.exit ?_
      refine G.seqR tfine rfl trivial ?_
      refine G.ret (endK.ret rfl ?_)
      rw [hV0, hfr, IntWalk.i64_in ((L.length : Int) + (R.length : Int)) (by omega)]
      rfl
    have h6 := of_decide_eq_true h6
    have hlt : i < l.length := by omega
    rw [any_step hlt] at hfr
    obtain ⟨x, hx⟩ : ∃ x, x = (l.getD i (0, 0)).1 := ⟨_, rfl⟩
    obtain ⟨y, hy⟩ : ∃ y, y = (l.getD i (0, 0)).2 := ⟨_, rfl⟩
    have hxy : l.getD i (0, 0) = (x, y) := by rw [hx, hy]
    rw [hxy] at hfr
    refine G.skip ?_
    refine G.seq (G.block ?_)
    refine G.seqR tfine rfl ⟨by simpa using hlt, by omega, by omega, trivial⟩ ?_
    rw [Int.toNat_natCast, ← hx, ← hy]
    refine G.seqC tfine rfl trivial ?_
    refine GO.callPlain (v := .bool (L.any fun z => x == z)) rfl rfl rfl rfl (fun args w => Try.call26 args w) (fun ρ w1 hs hok => contains_any x C2 c2 L w1 (hs.row (cap := c2) rfl (hok _ List.mem_cons_self)) m2) ?_
    refine GO.more tfine rfl ?_ ?_
    · first | trivial | (simp [AllP, condB]; done) | (simp only [AllP]; and_intros <;> first | trivial | decide | omega) | (simp [AllP, condB]; intros; and_intros <;> first | assumption | omega) | (simp [AllP, condB]; intros; simp_all; done) | (simp [AllP, condB]; intros; simp_all; omega) | (simp [AllP, condB]; omega)
    refine GO.callGuard (.bool (R.any fun z => y == z)) rfl rfl rfl (by first | exact trivial | exact ⟨id, trivial⟩ | exact ⟨id, id, trivial⟩ | exact ⟨id, id, id, trivial⟩ | exact ⟨id, id, id, id, trivial⟩) rfl rfl (fun args w => Try.call26 args w) rfl (fun _ m' hle ρ w1 hs hok => contains_any y C3 c3 R w1 (hs.row (cap := c3) (hle.at rfl) (hok _ List.mem_cons_self)) m3) ?_
    refine GO.fin tfine rfl ?_ ?_
    · first | trivial | (simp [AllP, condB]; done) | (simp only [AllP]; and_intros <;> first | trivial | decide | omega) | (simp [AllP, condB]; intros; and_intros <;> first | assumption | omega) | (simp [AllP, condB]; intros; simp_all; done) | (simp [AllP, condB]; intros; simp_all; omega) | (simp [AllP, condB]; omega)
    refine G.cond (b := freeB L R (x, y)) rfl (fun h7 => ?_) (fun h7 => ?_)
    · refine G.seqR tfine rfl trivial ?_
      refine G.ret (endK.ret rfl ?_)
      rw [hV0, hfr, h7]
      rfl
    rw [h7, Bool.false_or] at hfr
    refine G.skip ?_
    refine G.reg tfine rfl trivial ?_
    rw [IntWalk.i64_in ((i : Int) + 1) (by omega)]
    exact ⟨i + 1, ⟨by omega, hfr⟩, (by show l.length - (i + 1) < l.length - i; omega), St.le_of rfl ⟨⟨_, rfl, Blk.le_refl _⟩, ⟨_, rfl, Blk.le_refl _⟩, ⟨_, rfl, Blk.le_refl _⟩, ⟨_, rfl, Blk.le_refl _⟩, ⟨_, rfl, Blk.le_refl _⟩, trivial⟩ ⟨rfl, rfl, rfl, rfl, by simp [up, I], trivial⟩⟩
  have h := of_decide_eq_true h
  have hlt : k < p.length := by omega
  rw [any_step hlt] at hfi
  have dl := dupL_succ p k
  have dr := dupR_succ p k
  obtain ⟨x, hx⟩ : ∃ x, x = (p.getD k (0, 0)).1 := ⟨_, rfl⟩
  obtain ⟨y, hy⟩ : ∃ y, y = (p.getD k (0, 0)).2 := ⟨_, rfl⟩
  have hxy : p.getD k (0, 0) = (x, y) := by rw [hx, hy]
  have hbad : badV l p k = ((!(l.any (eqE (x, y))) || dupL p k x) || dupR p k y) := by rw [badV, hxy]
  rw [hbad] at hfi
  rw [← hx] at dl
  rw [← hy] at dr
  refine G.skip ?_
  refine G.seq (G.block ?_)
  refine G.seqR tfine rfl ⟨by simpa using hlt, by omega, by omega, trivial⟩ ?_
  rw [Int.toNat_natCast, ← hx, ← hy]
  refine G.seq ?_
  refine G.seqC tfine rfl trivial ?_
  refine GO.callPlain (v := .bool (l.any (eqE (x, y)))) rfl rfl rfl rfl (fun args w => Try.call42 args w) (fun ρ w1 hs hok => containsE_any x y A c l w1 (hs.row (cap := c) rfl (hok _ List.mem_cons_self)) hm) ?_
  refine GO.more tfine rfl ?_ ?_
  · first | trivial | (simp [AllP, condB]; done) | (simp only [AllP]; and_intros <;> first | trivial | decide | omega) | (simp [AllP, condB]; intros; and_intros <;> first | assumption | omega) | (simp [AllP, condB]; intros; simp_all; done) | (simp [AllP, condB]; intros; simp_all; omega) | (simp [AllP, condB]; omega)
  refine GO.lookupG 11 (dupL p k) x mpT rfl rfl rfl (by first | exact trivial | exact ⟨id, trivial⟩ | exact ⟨id, id, trivial⟩ | exact ⟨id, id, id, trivial⟩ | exact ⟨id, id, id, id, trivial⟩) rfl rfl rfl rfl ?_
  refine GO.more tfine rfl ?_ ?_
  · first | trivial | (simp [AllP, condB]; done) | (simp only [AllP]; and_intros <;> first | trivial | decide | omega) | (simp [AllP, condB]; intros; and_intros <;> first | assumption | omega) | (simp [AllP, condB]; intros; simp_all; done) | (simp [AllP, condB]; intros; simp_all; omega) | (simp [AllP, condB]; omega)
  refine GO.lookupG 12 (dupR p k) y mpT rfl rfl rfl (by first | exact trivial | exact ⟨id, trivial⟩ | exact ⟨id, id, trivial⟩ | exact ⟨id, id, id, trivial⟩ | exact ⟨id, id, id, id, trivial⟩) rfl rfl rfl rfl ?_
  refine GO.fin tfine rfl ?_ ?_
  · first | trivial | (simp [AllP, condB]; done) | (simp only [AllP]; and_intros <;> first | trivial | decide | omega) | (simp [AllP, condB]; intros; and_intros <;> first | assumption | omega) | (simp [AllP, condB]; intros; simp_all; done) | (simp [AllP, condB]; intros; simp_all; omega) | (simp [AllP, condB]; omega)
  refine G.cond (b := ((!(l.any (eqE (x, y))) || dupL p k x) || dupR p k y)) rfl (fun h7 => ?_) (fun h7 => ?_)
  · refine G.seqR tfine rfl trivial ?_
    refine G.ret (endK.ret rfl ?_)
    rw [provesB, hfi, h7]
    rfl
  rw [h7, Bool.false_or] at hfi
  simp only [Bool.or_eq_false_iff] at h7
  refine G.skip ?_
  refine G.draw (cls := [0, 0, 2, 0, 0, 16, 7, 127]) (X := [(6, 11), (7, 12)]) hmix rfl rfl rfl ?_
  refine GD.more tfine 0 rfl rfl trivial ?_
  refine GD.mapNew 11 (dupL p k) (dupL p (k + 1)) x 6 rfl mpT rfl rfl rfl rfl rfl rfl h7.1.2 (fun q => by rw [dl, beqc]) rfl ?_
  refine GD.mapNew 12 (dupR p k) (dupR p (k + 1)) y 7 rfl mpT rfl rfl rfl rfl rfl rfl h7.2 (fun q => by rw [dr, beqc]) rfl ?_
  refine GD.nil ?_
  refine G.reg tfine rfl trivial ?_
  rw [IntWalk.i64_in ((k : Int) + 1) (by omega)]
  exact ⟨k + 1, ⟨by omega, hfi⟩, (by show p.length - (k + 1) < p.length - k; omega), St.le_of rfl ⟨⟨_, rfl, Blk.le_refl _⟩, ⟨_, rfl, Blk.le_refl _⟩, ⟨_, rfl, Blk.le_refl _⟩, ⟨_, rfl, Blk.le_refl _⟩, ⟨_, rfl, Blk.le_refl _⟩, ⟨_, rfl, Blk.le_refl _⟩, ⟨_, rfl, Blk.le_refl _⟩, trivial⟩ ⟨rfl, rfl, rfl, rfl, rfl, rfl, by simp [up, I], trivial⟩⟩
end Go.Proofs.Ytnoejcejkdkaeaa
/- Chapter 37: the law MatchProves. -/
set_option linter.unusedVariables false
set_option linter.unusedSimpArgs false
set_option maxRecDepth 8000
set_option maxHeartbeats 1000000
namespace Go.Proofs.Ytnoejcejkdkaeaa
open Go.Sx Go.RowKit Mt
structure Vf (n m : Int) (l p : List EI) (L R : List Int) : Prop where
  check : checkM n m l = 0
  pairs : pairsB l p = true
  free : l.any (freeB L R) = false
  len : (p.length : Int) = (L.length : Int) + (R.length : Int)
theorem vf_of {n m : Int} {l p : List EI} {L R : List Int} (h : verifyM n m l p L R = 0) : Vf n m l p L R := by
  unfold verifyM at h
  split at h
  · cases h
  rename_i h0
  split at h
  · cases h
  rename_i h1
  simp only [Bool.or_eq_true, Bool.not_eq_true', not_or, Bool.not_eq_false, Bool.not_eq_true, bne_iff_ne, Decidable.not_not] at h1
  exact ⟨by simpa using h0, h1.1.1.1.1, h1.1.2, h1.2⟩
theorem pairs_at {l p : List EI} (h : pairsB l p = true) (k : Nat) (hk : k < p.length) : badP l p k = false := by
  unfold pairsB at h
  rw [Bool.not_eq_true', List.any_eq_false] at h
  have := h k (by simp [List.mem_range']; omega)
  simpa using this
theorem Vf.proves {n m : Int} {l p : List EI} {L R : List Int} (h : Vf n m l p L R) : provesB l p L R = true := by
  have h1 : (List.range' 0 p.length).any (badV l p) = false := by
    rw [List.any_eq_false]
    intro k hk
    have hk : k < p.length := by have := (List.mem_range'_1.1 hk).2; omega
    have := pairs_at h.pairs k hk
    unfold badP at this
    rw [Bool.or_eq_false_iff] at this
    rw [badV, this.1]
    exact Bool.false_ne_true
  rw [provesB, h1, h.free, h.len]
  simp
theorem Vf.size {n m : Int} {l p : List EI} {L R : List Int} (h : Vf n m l p L R) : (sizeA n m l).1 = (p.length : Int) := by
  have ok := check_ok h.check
  obtain ⟨Lg, hLg⟩ : ∃ Lg, Lg = toEg l := ⟨_, rfl⟩
  rw [← hLg] at ok
  have hl := ok.hl
  have mem : ∀ k, k < p.length → ∃ g ∈ Lg, p.getD k (0, 0) = ((g.1 : Int), (g.2 : Int)) := by
    intro k hk
    have := pairs_at h.pairs k hk
    unfold badP at this
    simp only [Bool.or_eq_false_iff, Bool.not_eq_false'] at this
    obtain ⟨e, he, h2⟩ := List.any_eq_true.1 this.1.1.1
    rw [hl] at he
    obtain ⟨g, hg, rfl⟩ := List.mem_map.1 he
    simp only [eqE, Bool.and_eq_true, beq_iff_eq] at h2
    exact ⟨g, hg, Prod.ext h2.1 h2.2⟩
  have gd : ∀ k (hk : k < p.length), p.getD k (0, 0) = p[k] := fun k hk => by rw [List.getD_eq_getElem?_getD, List.getElem?_eq_getElem hk]; rfl
  have hp : Pairs Lg (toEg p) := by
    refine ⟨fun e he => ?_, ?_, ?_⟩
    · obtain ⟨x, hx, rfl⟩ := List.mem_map.1 he
      obtain ⟨k, hk, rfl⟩ := List.mem_iff_getElem.1 hx
      obtain ⟨g, hg, e⟩ := mem k hk
      rw [gd k hk] at e
      rw [e]
      simpa using hg
    · rw [List.Nodup, List.pairwise_iff_getElem]
      intro i j hi hj hij
      have hi' : i < p.length := by simpa [toEg] using hi
      have hj' : j < p.length := by simpa [toEg] using hj
      obtain ⟨g1, _, e1⟩ := mem i hi'
      obtain ⟨g2, _, e2⟩ := mem j hj'
      have hb := pairs_at h.pairs j hj'
      unfold badP at hb
      simp only [Bool.or_eq_false_iff] at hb
      have hd := List.any_eq_false.1 hb.1.1.2 i (List.mem_range.2 hij)
      rw [e1, e2] at hd
      simp only [beq_iff_eq] at hd
      rw [gd i hi'] at e1
      rw [gd j hj'] at e2
      simp only [toEg, List.getElem_map, e1, e2]
      omega
    · rw [List.Nodup, List.pairwise_iff_getElem]
      intro i j hi hj hij
      have hi' : i < p.length := by simpa [toEg] using hi
      have hj' : j < p.length := by simpa [toEg] using hj
      obtain ⟨g1, _, e1⟩ := mem i hi'
      obtain ⟨g2, _, e2⟩ := mem j hj'
      have hb := pairs_at h.pairs j hj'
      unfold badP at hb
      simp only [Bool.or_eq_false_iff] at hb
      have hd := List.any_eq_false.1 hb.1.2 i (List.mem_range.2 hij)
      rw [e1, e2] at hd
      simp only [beq_iff_eq] at hd
      rw [gd i hi'] at e1
      rw [gd j hj'] at e2
      simp only [toEg, List.getElem_map, e1, e2]
      omega
  have hc : Cover Lg (L.map Int.toNat) (R.map Int.toNat) := by
    intro e he
    have hm : ((e.1 : Int), (e.2 : Int)) ∈ l := by rw [hl]; exact List.mem_map.2 ⟨e, he, rfl⟩
    have := List.any_eq_false.1 h.free _ hm
    simp only [freeB, Bool.and_eq_true, Bool.not_eq_true', not_and, Bool.not_eq_false] at this
    by_cases h1 : (L.any fun y => (e.1 : Int) == y) = true
    · obtain ⟨y, hy, hq⟩ := List.any_eq_true.1 h1
      simp only [beq_iff_eq] at hq
      exact .inl (List.mem_map.2 ⟨y, hy, by omega⟩)
    · obtain ⟨y, hy, hq⟩ := List.any_eq_true.1 (this (by rw [Bool.not_eq_true] at h1; exact h1))
      simp only [beq_iff_eq] at hq
      exact .inr (List.mem_map.2 ⟨y, hy, by omega⟩)
  have hl2 : (toEg p).length = p.length := by simp [toEg]
  have hmax : IsMax Lg p.length := ⟨⟨_, hp, hl2⟩, _, _, hc, by have := h.len; simp; omega⟩
  have := ok.best.max.unique hmax
  rw [sizeA, if_neg (by simp [h.check])]
  simp only [msOf, ← hLg]
  omega
theorem pairsB_cast {Lg P : List Eg} (h : Pairs Lg P) (hu : (P.map (·.1)).Pairwise (· < ·)) : pairsB (castL Lg) (castL P) = true := by
  have gd : ∀ k (hk : k < P.length), P.getD k (0, 0) = P[k] := fun k hk => by rw [List.getD_eq_getElem?_getD, List.getElem?_eq_getElem hk]; rfl
  have lt : ∀ i j, i < j → j < P.length → (P.getD i (0, 0)).1 < (P.getD j (0, 0)).1 := fun i j hij hj => by
    have := List.pairwise_iff_getElem.1 hu i j (by simp; omega) (by simpa using hj) hij
    rw [gd i (by omega), gd j hj]
    simpa using this
  have ne : ∀ i j, i < j → j < P.length → (P.getD i (0, 0)).2 ≠ (P.getD j (0, 0)).2 := fun i j hij hj => by
    have := List.pairwise_iff_getElem.1 h.rgt i j (by simp; omega) (by simpa using hj) hij
    rw [gd i (by omega), gd j hj]
    simpa using this
  unfold pairsB
  rw [Bool.not_eq_true', List.any_eq_false]
  intro k hk
  have hk : k < P.length := by
    have := (List.mem_range'_1.1 hk).2
    rw [castL_len] at this
    omega
  rw [Bool.not_eq_true]
  unfold badP
  simp only [getD_cast, Bool.or_eq_false_iff, Bool.not_eq_false', Bool.and_eq_false_iff, decide_eq_false_iff_not]
  refine ⟨⟨⟨?_, ?_⟩, ?_⟩, ?_⟩
  · refine List.any_eq_true.2 ⟨_, List.mem_map.2 ⟨P.getD k (0, 0), h.sub _ (by rw [gd k hk]; exact List.getElem_mem hk), rfl⟩, ?_⟩
    simp [eqE]
  · rw [dupL, List.any_eq_false]
    intro i hi
    have := lt i k (List.mem_range.1 hi) hk
    rw [getD_cast]
    simp only [beq_iff_eq]
    omega
  · rw [dupR, List.any_eq_false]
    intro i hi
    have := ne i k (List.mem_range.1 hi) hk
    rw [getD_cast]
    simp only [beq_iff_eq]
    omega
  · by_cases h0 : 0 < k
    · have := lt (k - 1) k (by omega) hk
      exact .inr (by omega)
    · exact .inl (by omega)
theorem own_verify {n m : Int} {l : List EI} (h : checkM n m l = 0) : verifyM n m l (castL (matchA n m l).1) (castI (matchA n m l).2.1) (castI (matchA n m l).2.2.1) = 0 ∧ (matchA n m l).2.2.2 = 0 := by
  have ok := check_ok h
  obtain ⟨hN, hM⟩ : n.toNat ≤ 24 ∧ m.toNat ≤ 24 := ⟨ok.hN, ok.hM⟩
  have hA : matchA n m l = (pairsM (matched n.toNat (toEg l)), coverL n.toNat (toEg l), coverR n.toNat m.toNat (toEg l), 0) := by
    rw [matchA, if_neg (by simp [h])]
    rfl
  obtain ⟨hp, hpl⟩ := ok.best.pairs
  obtain ⟨hc, hcl⟩ := ok.best.cover
  have hl := ok.hl
  have hu : ((pairsM (matched n.toNat (toEg l))).map (·.1)).Pairwise (· < ·) := by
    unfold pairsM
    rw [List.map_map]
    have : ((fun e : Eg => e.1) ∘ fun i => (i, (matched n.toNat (toEg l)).left i - 1)) = id := rfl
    rw [this, List.map_id]
    exact List.Pairwise.filter _ List.pairwise_lt_range
  have b1 := pairsB_cast hp hu
  rw [← hl] at b1
  have b2 : ascB (castI (coverL n.toNat (toEg l))) n = true := by
    have := asc_cast (N := n.toNat) (where_up (reached n.toNat (toEg l) (matched n.toNat (toEg l))).a n.toNat false) fun x hx => ((where_mem hN _ _).1 hx).1
    rw [← ok.hn] at this
    exact this
  have b3 : ascB (castI (coverR n.toNat m.toNat (toEg l))) m = true := by
    have := asc_cast (N := m.toNat) (where_up (reached n.toNat (toEg l) (matched n.toNat (toEg l))).b m.toNat true) fun x hx => ((where_mem hM _ _).1 hx).1
    rw [← ok.hm] at this
    exact this
  have b4 : l.any (freeB (castI (coverL n.toNat (toEg l))) (castI (coverR n.toNat m.toNat (toEg l)))) = false := by
    rw [List.any_eq_false]
    intro e he
    rw [hl] at he
    obtain ⟨g, hg, rfl⟩ := List.mem_map.1 he
    simp only [freeB, castI_any]
    rcases hc g hg with h1 | h1 <;> simp [h1]
  rw [hA]
  refine ⟨?_, rfl⟩
  rw [verifyM, if_neg (by simp [h])]
  simp only
  rw [b1, b2, b3, b4, if_neg]
  rw [castL_len, castI_len, castI_len]
  simp
  omega
theorem own_bad {n m : Int} {l : List EI} (h : checkM n m l ≠ 0) : matchA n m l = ([], [], [], 1) ∧ sizeA n m l = (0, 1) := by
  have : (checkM n m l != 0) = true := by simpa using h
  rw [matchA, sizeA, if_pos this, if_pos this]
  exact ⟨rfl, rfl⟩
theorem own_good {n m : Int} {l : List EI} (h : checkM n m l = 0) : (sizeA n m l).2 = 0 := by
  rw [sizeA, if_neg (by simp [h])]
theorem MatchI_any (n m : Int) (A : Option Addr) (c : Nat) (l : List EI) (w : World) (hl : RdRow w A l.length 2 (elE l)) (hm : l.length ≤ 1000000) :
    Calls Try.prog 11 #[I n, I m, .slice A l.length c] w fun e w' => Ans w w' [.agg [.r (castL (matchA n m l).1).length 2 (elE (castL (matchA n m l).1)), .r (castI (matchA n m l).2.1).length 1 (elI (castI (matchA n m l).2.1)), .r (castI (matchA n m l).2.2.1).length 1 (elI (castI (matchA n m l).2.2.1))], .c (.p (I (matchA n m l).2.2.2))] e ∧ Below w.heap.size w w' := by
  have := Match_any n m A c l w hl hm
  simp only [elW_eq, elG_eq] at this
  simp only [castL_len, castI_len]
  exact this
theorem own_small (n m : Int) (l : List EI) : (matchA n m l).1.length ≤ 24 ∧ (matchA n m l).2.1.length ≤ 24 ∧ (matchA n m l).2.2.1.length ≤ 24 := by
  have wl : ∀ f : Nat → Bool, ∀ k v, (whereM f k v).length ≤ 24 := fun f k v => by
    have := List.length_filter_le (fun i => decide (i < k) && (f i == v)) (List.range 24)
    rw [List.length_range] at this
    exact this
  unfold matchA
  split
  · simp
  · refine ⟨?_, wl _ _ _, wl _ _ _⟩
    simp only [pairsM, List.length_map]
    have := List.length_filter_le (fun i => decide ((msOf n l).left i > 0)) (List.range 24)
    rw [List.length_range] at this
    exact this
theorem MatchProves_any (n m : Int) (A : Option Addr) (c : Nat) (l : List EI) (C1 C2 C3 : Option Addr) (c1 c2 c3 : Nat) (p : List EI) (L R : List Int) (w : World) (hl : RdRow w A l.length 2 (elE l)) (h1 : RdRow w C1 p.length 2 (elE p)) (h2 : RdRow w C2 L.length 1 (elI L)) (h3 : RdRow w C3 R.length 1 (elI R)) :
    Calls Try.prog 6 #[.agg #[I n, I m], .slice A l.length c, .agg #[.slice C1 p.length c1, .slice C2 L.length c2, .slice C3 R.length c3]] w fun e w' => e = .returned (.bool true) ∧ Below w.heap.size w w' := by
  refine enterPlain tfine Try.func6 rfl 124 Try.ntmps6 [.agg [.k (I n), .k (I m)], .c (.inp 1000 A l.length c), .agg [.inp 1001 C1 p.length c1, .inp 1002 C2 L.length c2, .inp 1003 C3 R.length c3]]
    [⟨1000, A, 2, l.length, elE l⟩, ⟨1001, C1, 2, p.length, elE p⟩, ⟨1002, C2, 1, L.length, elI L⟩, ⟨1003, C3, 1, R.length, elI R⟩] rfl rfl ⟨hl, h1, h2, h3, trivial⟩
    ⟨⟨trivial, trivial, trivial⟩, .inl ⟨rfl, rfl, rfl⟩, ⟨.inr ⟨nx rfl, .inl ⟨rfl, rfl, rfl⟩⟩, .inr ⟨nx rfl, .inr ⟨nx rfl, .inl ⟨rfl, rfl, rfl⟩⟩⟩, .inr ⟨nx rfl, .inr ⟨nx rfl, .inr ⟨nx rfl, .inl ⟨rfl, rfl, rfl⟩⟩⟩⟩, trivial⟩, trivial⟩ ?_
  refine G.seqR tfine rfl trivial ?_
  refine G.seq ?_
  refine G.seqC tfine rfl trivial ?_
  refine GO.callPlain (v := .bool true) rfl rfl rfl rfl (fun args w => Try.call10 args w) (fun ρ w hs hok => awake_any w) ?_
  refine GO.fin tfine rfl trivial ?_
  refine G.cond_false rfl ?_
  refine G.skip ?_
  refine G.seq ?_
  refine G.seqR tfine rfl ?_ ?_
  · first | trivial | (simp [AllP, condB]; done) | (simp only [AllP]; and_intros <;> first | trivial | decide | omega) | (simp [AllP, condB]; intros; and_intros <;> first | assumption | omega) | (simp [AllP, condB]; intros; simp_all; done) | (simp [AllP, condB]; intros; simp_all; omega) | (simp [AllP, condB]; omega)
  refine G.cond (b := ((decide ((l.length : Int) > 40) || decide ((p.length : Int) > 30)) || decide ((L.length : Int) > 30)) || decide ((R.length : Int) > 30)) rfl (fun h => ?_) (fun h => ?_)
  · refine G.seqR tfine rfl trivial ?_
    exact G.ret (endK.ret rfl rfl)
  have hm : l.length ≤ 1000000 ∧ p.length ≤ 1000000 ∧ L.length ≤ 1000000 ∧ R.length ≤ 1000000 := by simp at h; omega
  obtain ⟨hm, m1, m2, m3⟩ := hm
  refine G.skip ?_
  obtain ⟨op, hop⟩ : ∃ x, x = castL (matchA n m l).1 := ⟨_, rfl⟩
  obtain ⟨oL, hoL⟩ : ∃ x, x = castI (matchA n m l).2.1 := ⟨_, rfl⟩
  obtain ⟨oR, hoR⟩ : ∃ x, x = castI (matchA n m l).2.2.1 := ⟨_, rfl⟩
  obtain ⟨oe, hoe⟩ : ∃ x, x = (matchA n m l).2.2.2 := ⟨_, rfl⟩
  obtain ⟨sz, hsz⟩ : ∃ x, x = (sizeA n m l).1 := ⟨_, rfl⟩
  obtain ⟨er, her⟩ : ∃ x, x = (sizeA n m l).2 := ⟨_, rfl⟩
  obtain ⟨k1, k2, k3⟩ := own_small n m l
  have k1 : op.length ≤ 24 := by rw [hop, castL_len]; exact k1
  have k2 : oL.length ≤ 24 := by rw [hoL, castI_len]; exact k2
  have k3 : oR.length ≤ 24 := by rw [hoR, castI_len]; exact k3
  refine G.seqDraw hmix [0, 1, 0, 4, 0, 16, 63, 127, 255, 255, 0, 1535, 4095] [(5, 800), (5, 850), (6, 801), (6, 851), (6, 802), (6, 852), (6, 803), (6, 853), (10, 7), (11, 7)] rfl rfl rfl ?_
  refine GD.more tfine 0 rfl rfl trivial ?_
  refine GD.callAns [.c (.r l.length 2 (elE l))] [800] 5 rfl rfl rfl rfl rfl ⟨rfl, rfl, rfl, trivial⟩ rfl (fun args w => Try.call15 args w) (fun m' hle ρ w hs hok => cloneEI_any A c l w (hs.row (cap := c) (hle.at rfl) (hok _ List.mem_cons_self)) hm) ?_
  refine GD.callAns [.agg [.r op.length 2 (elE op), .r oL.length 1 (elI oL), .r oR.length 1 (elI oR)], .c (.p (I oe))] [801, 802, 803] 6 rfl rfl rfl rfl rfl ⟨rfl, rfl, rfl, rfl, rfl, rfl, rfl, rfl, rfl, trivial⟩ rfl (fun args w => Try.call11 args w) (fun m' hle ρ w hs hok => ?_) ?_
  · have := MatchI_any n m (rowAd ρ 800) (ρ 850).1 l w (hs.rowR (hle.at rfl) (hok _ (List.mem_cons_of_mem _ (List.mem_cons_of_mem _ List.mem_cons_self))) (Nat.le_refl _)) hm
    rw [← hop, ← hoL, ← hoR, ← hoe] at this
    exact this
  refine GD.fin tfine 7 rfl rfl trivial ?_
  refine G.seqDraw hmix [0, 1, 0, 4, 0, 16, 63, 127, 255, 255, 511, 2047] [(5, 804), (5, 854)] rfl rfl rfl ?_
  refine GD.more tfine 0 rfl rfl trivial ?_
  refine GD.callAns [.c (.r l.length 2 (elE l))] [804] 5 rfl rfl rfl rfl rfl ⟨rfl, rfl, rfl, trivial⟩ rfl (fun args w => Try.call15 args w) (fun m' hle ρ w hs hok => cloneEI_any A c l w (hs.row (cap := c) (hle.at rfl) (hok _ List.mem_cons_self)) hm) ?_
  refine GD.call (v := .tuple #[I sz, I er]) 6 rfl rfl rfl rfl rfl (fun args w => Try.call13 args w) (fun m' hle ρ w hs hok => ?_) ?_
  · have := Size_any n m (rowAd ρ 804) (ρ 854).1 l w (hs.rowR (hle.at rfl) (hok _ (List.mem_cons_of_mem _ (List.mem_cons_of_mem _ List.mem_cons_self))) (Nat.le_refl _)) hm
    rw [← hsz, ← her] at this
    exact this
  refine GD.fin tfine 7 rfl rfl trivial ?_
  refine G.seq ?_
  refine G.seqR tfine rfl trivial ?_
  refine G.cond (b := (oe != 0)) rfl (fun h4 => ?_) (fun h4 => ?_)
  · have hc : checkM n m l ≠ 0 := fun hc => by
      have := (own_verify hc).2
      rw [hoe, this] at h4
      simp at h4
    obtain ⟨e1, e2⟩ := own_bad hc
    rw [e1] at hop hoL hoR hoe
    rw [e2] at hsz her
    simp only at hop hoL hoR hoe hsz her
    subst hop hoL hoR hoe hsz her
    refine G.seqR tfine rfl ?_ ?_
    · first | trivial | (simp [AllP, condB]; done) | (simp only [AllP]; and_intros <;> first | trivial | decide | omega) | (simp [AllP, condB]; intros; and_intros <;> first | assumption | omega) | (simp [AllP, condB]; intros; simp_all; done) | (simp [AllP, condB]; intros; simp_all; omega) | (simp [AllP, condB]; omega)
    exact G.ret (endK.ret rfl rfl)
  have hc : checkM n m l = 0 := by
    by_cases hc : checkM n m l = 0
    · exact hc
    · rw [hoe, (own_bad hc).1] at h4
      simp at h4
  obtain ⟨hv, hv0⟩ := own_verify hc
  rw [← hop, ← hoL, ← hoR] at hv
  have her0 : er = 0 := by rw [her]; exact own_good hc
  have hsz0 : sz = (op.length : Int) := by rw [hsz]; exact (vf_of hv).size
  have hpr := (vf_of hv).proves
  clear her h4
  subst her0
  refine G.skip ?_
  refine G.seq ?_
  refine G.seqDraw hmix [0, 1, 3, 7, 15, 7, 39, 7, 135, 7, 903, 2047, 4095, 8191, 16383, 32767, 65535, 131071, 32767, 524287, 1048575, 2097151, 4194303, 4194303, 16777215, 33554431, 67108863] [(8, 805), (8, 855), (10, 806), (10, 856), (10, 807), (10, 857), (10, 808), (10, 858)] rfl rfl rfl ?_
  refine GD.more tfine 0 rfl rfl ?_ ?_
  · first | trivial | (simp [AllP, condB]; done) | (simp only [AllP]; and_intros <;> first | trivial | decide | omega) | (simp [AllP, condB]; intros; and_intros <;> first | assumption | omega) | (simp [AllP, condB]; intros; simp_all; done) | (simp [AllP, condB]; intros; simp_all; omega) | (simp [AllP, condB]; omega)
  refine GD.callAnsT [.c (.r l.length 2 (elE l))] [805] 8 rfl rfl rfl rfl rfl (by first | exact trivial | exact ⟨id, trivial⟩ | exact ⟨id, id, trivial⟩ | exact ⟨id, id, id, trivial⟩ | exact ⟨id, id, id, id, trivial⟩) rfl rfl ⟨rfl, rfl, rfl, trivial⟩ rfl (fun args w => Try.call15 args w) rfl (fun m' hle ρ w hs hok => cloneEI_any A c l w (hs.row (cap := c) (hle.at rfl) (hok _ List.mem_cons_self)) hm) ?_
  refine GD.more tfine 9 rfl rfl ?_ ?_
  · first | trivial | (simp [AllP, condB]; done) | (simp only [AllP]; and_intros <;> first | trivial | decide | omega) | (simp [AllP, condB]; intros; and_intros <;> first | assumption | omega) | (simp [AllP, condB]; intros; simp_all; done) | (simp [AllP, condB]; intros; simp_all; omega) | (simp [AllP, condB]; omega)
  refine GD.callAnsT [.agg [.r op.length 2 (elE op), .r oL.length 1 (elI oL), .r oR.length 1 (elI oR)]] [806, 807, 808] 10 rfl rfl rfl rfl rfl (by first | exact trivial | exact ⟨id, trivial⟩ | exact ⟨id, id, trivial⟩ | exact ⟨id, id, id, trivial⟩ | exact ⟨id, id, id, id, trivial⟩) rfl rfl ⟨rfl, rfl, rfl, rfl, rfl, rfl, rfl, rfl, rfl, trivial⟩ rfl (fun args w => Try.call20 args w) rfl (fun m' hle ρ w hs hok => ?_) ?_
  · have o := hok _ List.mem_cons_self
    exact cp_any (rowAd ρ 801) (rowAd ρ 802) (rowAd ρ 803) (ρ 851).1 (ρ 852).1 (ρ 853).1 op oL oR w (hs.rowR (hle.at rfl) (o _ List.mem_cons_self) (Nat.le_refl _)) (hs.rowR (hle.at rfl) (o _ (List.mem_cons_of_mem _ List.mem_cons_self)) (Nat.le_refl _)) (hs.rowR (hle.at rfl) (o _ (List.mem_cons_of_mem _ (List.mem_cons_of_mem _ List.mem_cons_self))) (Nat.le_refl _)) (by omega) (by omega) (by omega)
  refine GD.callGuard (I 0) 11 rfl rfl rfl rfl (by first | exact trivial | exact ⟨id, trivial⟩ | exact ⟨id, id, trivial⟩ | exact ⟨id, id, id, trivial⟩ | exact ⟨id, id, id, id, trivial⟩) rfl rfl (fun args w => Try.call19 args w) rfl (fun _ m' hle ρ w hs hok => ?_) ?_
  · have o3 := hok _ (List.mem_cons_of_mem _ (List.mem_cons_of_mem _ (List.mem_cons_of_mem _ List.mem_cons_self)))
    have := Verify_any n m (rowAd ρ 805) (ρ 855).1 l (rowAd ρ 806) (rowAd ρ 807) (rowAd ρ 808) (ρ 856).1 (ρ 857).1 (ρ 858).1 op oL oR w (hs.rowR (hle.at rfl) (hok _ (List.mem_cons_of_mem _ (List.mem_cons_of_mem _ List.mem_cons_self))) (Nat.le_refl _)) (hs.rowR (hle.at rfl) (o3 _ List.mem_cons_self) (Nat.le_refl _)) (hs.rowR (hle.at rfl) (o3 _ (List.mem_cons_of_mem _ List.mem_cons_self)) (Nat.le_refl _)) (hs.rowR (hle.at rfl) (o3 _ (List.mem_cons_of_mem _ (List.mem_cons_of_mem _ List.mem_cons_self))) (Nat.le_refl _)) hm (by omega) (by omega) (by omega)
    rw [hv] at this
    exact this
  refine GD.more tfine 12 rfl rfl ?_ ?_
  · first | trivial | (simp [AllP, condB]; done) | (simp only [AllP]; and_intros <;> first | trivial | decide | omega) | (simp [AllP, condB]; intros; and_intros <;> first | assumption | omega) | (simp [AllP, condB]; intros; simp_all; done) | (simp [AllP, condB]; intros; simp_all; omega) | (simp [AllP, condB]; omega)
  refine GD.callGuard (.bool true) 24 rfl rfl rfl rfl (by first | exact trivial | exact ⟨id, trivial⟩ | exact ⟨id, id, trivial⟩ | exact ⟨id, id, id, trivial⟩ | exact ⟨id, id, id, id, trivial⟩) rfl rfl (fun args w => Try.call22 args w) rfl (fun _ m' hle ρ w hs hok => ?_) ?_
  · have o3 := hok _ (List.mem_cons_of_mem _ List.mem_cons_self)
    have := proves_any A c l (rowAd ρ 801) (rowAd ρ 802) (rowAd ρ 803) (ρ 851).1 (ρ 852).1 (ρ 853).1 op oL oR w (hs.row (cap := c) (hle.at rfl) (hok _ List.mem_cons_self)) (hs.rowR (hle.at rfl) (o3 _ List.mem_cons_self) (Nat.le_refl _)) (hs.rowR (hle.at rfl) (o3 _ (List.mem_cons_of_mem _ List.mem_cons_self)) (Nat.le_refl _)) (hs.rowR (hle.at rfl) (o3 _ (List.mem_cons_of_mem _ (List.mem_cons_of_mem _ List.mem_cons_self))) (Nat.le_refl _)) hm (by omega) (by omega) (by omega)
    rw [hpr] at this
    exact this
  refine GD.fin tfine 25 rfl rfl ?_ ?_
  · first | trivial | (simp [AllP, condB]; done) | (simp only [AllP]; and_intros <;> first | trivial | decide | omega) | (simp [AllP, condB]; intros; and_intros <;> first | assumption | omega) | (simp [AllP, condB]; intros; simp_all; done) | (simp [AllP, condB]; intros; simp_all; omega) | (simp [AllP, condB]; omega)
  refine G.cond (b := ((((0 : Int) != 0) || ((0 : Int) != 0)) || ((op.length : Int) != sz)) || !true) rfl (fun h5 => ?_) (fun h5 => ?_)
  · rw [hsz0] at h5
    simp at h5
  clear h5
  refine G.skip ?_
  refine G.seq ?_
  refine G.seqDraw hmix [0, 1, 0, 4, 0, 16, 0, 112, 255, 511] [(5, 809), (5, 859), (7, 810), (7, 860), (7, 811), (7, 861), (7, 812), (7, 862)] rfl rfl rfl ?_
  refine GD.more tfine 0 rfl rfl trivial ?_
  refine GD.callAns [.c (.r l.length 2 (elE l))] [809] 5 rfl rfl rfl rfl rfl ⟨rfl, rfl, rfl, trivial⟩ rfl (fun args w => Try.call15 args w) (fun m' hle ρ w hs hok => cloneEI_any A c l w (hs.row (cap := c) (hle.at rfl) (hok _ List.mem_cons_self)) hm) ?_
  refine GD.more tfine 6 rfl rfl trivial ?_
  refine GD.callAns [.agg [.r p.length 2 (elE p), .r L.length 1 (elI L), .r R.length 1 (elI R)]] [810, 811, 812] 7 rfl rfl rfl rfl rfl ⟨rfl, rfl, rfl, rfl, rfl, rfl, rfl, rfl, rfl, trivial⟩ rfl (fun args w => Try.call20 args w) (fun m' hle ρ w hs hok => ?_) ?_
  · have o := hok _ List.mem_cons_self
    exact cp_any C1 C2 C3 c1 c2 c3 p L R w (hs.row (cap := c1) (hle.at rfl) (o _ List.mem_cons_self)) (hs.row (cap := c2) (hle.at rfl) (o _ (List.mem_cons_of_mem _ List.mem_cons_self))) (hs.row (cap := c3) (hle.at rfl) (o _ (List.mem_cons_of_mem _ (List.mem_cons_of_mem _ List.mem_cons_self)))) m1 m2 m3
  refine GD.call (v := I (verifyM n m l p L R)) 8 rfl rfl rfl rfl rfl (fun args w => Try.call19 args w) (fun m' hle ρ w hs hok => ?_) ?_
  · have o3 := hok _ (List.mem_cons_of_mem _ (List.mem_cons_of_mem _ (List.mem_cons_of_mem _ List.mem_cons_self)))
    exact Verify_any n m (rowAd ρ 809) (ρ 859).1 l (rowAd ρ 810) (rowAd ρ 811) (rowAd ρ 812) (ρ 860).1 (ρ 861).1 (ρ 862).1 p L R w (hs.rowR (hle.at rfl) (hok _ (List.mem_cons_of_mem _ (List.mem_cons_of_mem _ List.mem_cons_self))) (Nat.le_refl _)) (hs.rowR (hle.at rfl) (o3 _ List.mem_cons_self) (Nat.le_refl _)) (hs.rowR (hle.at rfl) (o3 _ (List.mem_cons_of_mem _ List.mem_cons_self)) (Nat.le_refl _)) (hs.rowR (hle.at rfl) (o3 _ (List.mem_cons_of_mem _ (List.mem_cons_of_mem _ List.mem_cons_self))) (Nat.le_refl _)) hm m1 m2 m3
  refine GD.fin tfine 9 rfl rfl trivial ?_
  refine G.cond (b := (verifyM n m l p L R != 0)) rfl (fun h6 => ?_) (fun h6 => ?_)
  · refine G.seqR tfine rfl trivial ?_
    exact G.ret (endK.ret rfl rfl)
  have hvx : verifyM n m l p L R = 0 := by simpa using h6
  have hpx := (vf_of hvx).proves
  have hsx : sz = (p.length : Int) := by rw [hsz]; exact (vf_of hvx).size
  refine G.skip ?_
  refine G.seqC tfine rfl ?_ ?_
  · first | trivial | (simp [AllP, condB]; done) | (simp only [AllP]; and_intros <;> first | trivial | decide | omega) | (simp [AllP, condB]; intros; and_intros <;> first | assumption | omega) | (simp [AllP, condB]; intros; simp_all; done) | (simp [AllP, condB]; intros; simp_all; omega) | (simp [AllP, condB]; omega)
  refine GO.callGuard (.bool true) rfl rfl rfl (by first | exact trivial | exact ⟨id, trivial⟩ | exact ⟨id, id, trivial⟩ | exact ⟨id, id, id, trivial⟩ | exact ⟨id, id, id, id, trivial⟩) rfl rfl (fun args w => Try.call22 args w) rfl (fun _ m' hle ρ w hs hok => ?_) ?_
  · have o3 := hok _ (List.mem_cons_of_mem _ List.mem_cons_self)
    have := proves_any A c l C1 C2 C3 c1 c2 c3 p L R w (hs.row (cap := c) (hle.at rfl) (hok _ List.mem_cons_self)) (hs.row (cap := c1) (hle.at rfl) (o3 _ List.mem_cons_self)) (hs.row (cap := c2) (hle.at rfl) (o3 _ (List.mem_cons_of_mem _ List.mem_cons_self))) (hs.row (cap := c3) (hle.at rfl) (o3 _ (List.mem_cons_of_mem _ (List.mem_cons_of_mem _ List.mem_cons_self)))) hm m1 m2 m3
    rw [hpx] at this
    exact this
  refine GO.fin tfine rfl ?_ ?_
  · first | trivial | (simp [AllP, condB]; done) | (simp only [AllP]; and_intros <;> first | trivial | decide | omega) | (simp [AllP, condB]; intros; and_intros <;> first | assumption | omega) | (simp [AllP, condB]; intros; simp_all; done) | (simp [AllP, condB]; intros; simp_all; omega) | (simp [AllP, condB]; omega)
  refine G.ret (endK.ret rfl ?_)
  rw [hsx]
  simp
end Go.Proofs.Ytnoejcejkdkaeaa
/- The symbolic executor, part AG: rows of ours that calls make and turn (slices.Clone, slices.Delete), a row's own tail moved down, its rest cleared. Generic over P. -/
set_option linter.unusedVariables false
set_option linter.unusedSimpArgs false
namespace Go.Sx
open Go.RowKit
/-- A call answers with a row of its own. -/
def OwnNew (w w' : World) (e : Ending) (ty : TypeId) (n sz : Nat) (el : Nat → List Value) : Prop := ∃ b c, e = .returned (.slice (some ⟨b, 0, none⟩) n c) ∧ n ≤ c ∧ w.heap.size ≤ b ∧ OwnAt w' b ty n sz el 0
def rowMo (m : Mem) (x : Nat) (ty : TypeId) (n sz : Nat) (el : Nat → List Value) : Mem := up (up m x (some (.arr ty sz n el 0))) (x + 50) (some (.ro 0 0 fun _ => []))
section
variable {P : Program} {E : Env} {K : Exit → St → Prop} {T : Tab}
theorem SatM.addOwnRow {ρ : Val} {m : Mem} {w w' : World} (h : SatM E ρ m w) (hbl : Below w.heap.size w w') {x n sz b c : Nat} {ty : TypeId} {el : Nat → List Value} (hx : m x = none) (hx2 : m (x + 50) = none) (hxb : Nat.blt (x + 50) 1000 = true) (hge : w.heap.size ≤ b) (ho : OwnAt w' b ty n sz el 0) (hc : n ≤ c) :
    ∃ ρ' : Val, (∀ y, (m y).isSome = true → ρ' y = ρ y) ∧ SatM E ρ' (rowMo m x ty n sz el) w' ∧ AC.ok ρ' (rowMo m x ty n sz el) (.row x n E.w0.heap.size) ∧ AC.conc ρ' (.row x n E.w0.heap.size) = .slice (some ⟨b, 0, none⟩) n c := by
  have hxb : x + 50 < 1000 := by simpa [Nat.blt_eq] using hxb
  obtain ⟨ρ', hρ'⟩ : ∃ ρ' : Val, ρ' = up (up ρ x (b, 0)) (x + 50) (c, 1) := ⟨_, rfl⟩
  have e1 : ρ' x = (b, 0) := by rw [hρ', up_other _ _ (by omega), up_same]
  have e2 : ρ' (x + 50) = (c, 1) := by rw [hρ', up_same]
  have e3 : ∀ y, y ≠ x → y ≠ x + 50 → ρ' y = ρ y := fun y h1 h2 => by rw [hρ', up_other _ _ h2, up_other _ _ h1]
  have hρ : ∀ y, (m y).isSome = true → ρ' y = ρ y := fun y hy => e3 y (fun e => by subst e; simp [hx] at hy) (fun e => by subst e; simp [hx2] at hy)
  have hm : ∀ y d, rowMo m x ty n sz el y = some d → (y = x + 50 ∧ d = .ro 0 0 fun _ => []) ∨ (y = x ∧ d = .arr ty sz n el 0) ∨ (y ≠ x ∧ y ≠ x + 50 ∧ m y = some d) := by
    intro y d hy
    unfold rowMo at hy
    by_cases h1 : y = x + 50
    · subst h1; rw [up_same] at hy; injection hy with hy; exact .inl ⟨rfl, hy.symm⟩
    · rw [up_other _ _ h1] at hy
      by_cases h2 : y = x
      · subst h2; rw [up_same] at hy; injection hy with hy; exact .inr (.inl ⟨rfl, hy.symm⟩)
      · rw [up_other _ _ h2] at hy; exact .inr (.inr ⟨h2, h1, hy⟩)
  have hsome : ∀ y, (m y).isSome = true → (rowMo m x ty n sz el y).isSome = true := fun y hy => isSome_up y (isSome_up y hy)
  have h' := h.below hbl
  refine ⟨ρ', hρ, ⟨h'.fr, fun r hr => ?_, fun y d hy => ?_, fun y z d f hy hz hd hf hne => ?_⟩, ⟨?_, ?_, fun h0 => ⟨by rw [e2]; exact Nat.one_ne_zero, by rw [e1]; exact Nat.le_trans h.fr.size hge⟩, by rw [e2]; exact hc⟩, ?_⟩
  · have := h.bo r hr
    rw [e3 _ (by omega) (by omega)]; exact this
  · rcases hm y d hy with ⟨rfl, rfl⟩ | ⟨rfl, rfl⟩ | ⟨h1, h2, h3⟩
    · intro h0; omega
    · exact ⟨by rw [e1], .inl (by rw [e1]; exact Nat.le_trans h.fr.size hge), by rw [e1]; exact ho⟩
    · have hk := h'.ok y d h3
      have ey : ρ' y = ρ y := e3 y h1 h2
      cases d with
      | var ty cells =>
        have hcm : cells.map (AC.conc ρ') = cells.map (AC.conc ρ) := List.map_congr_left fun c hm => AC.conc_mono hρ (hk.2.2.2 c hm)
        exact ⟨by rw [ey]; exact hk.1, by rw [ey]; exact hk.2.1, by rw [ey, hcm]; exact hk.2.2.1, fun c hc => AC.ok_mono hsome hρ (hk.2.2.2 c hc)⟩
      | arr ty sz n el room =>
        obtain ⟨k1, k2, a, ha, hs, he⟩ := hk
        exact ⟨by rw [ey]; exact k1, by rw [ey]; exact k2, a, by rw [ey]; exact ha, hs, he⟩
      | obj Q =>
        obtain ⟨k1, k2, a, ha, hs⟩ := hk
        exact ⟨by rw [ey]; exact k1, by rw [ey]; exact k2, a, by rw [ey]; exact ha, hs⟩
      | ro sz n el =>
        intro hn
        rw [ey]
        exact hk hn
  · rcases hm y d hy with ⟨rfl, rfl⟩ | ⟨rfl, rfl⟩ | ⟨h1, h2, h3⟩
    · exact hd.elim
    · rcases hm z f hz with ⟨rfl, rfl⟩ | ⟨rfl, rfl⟩ | ⟨k1, k2, k3⟩
      · exact absurd hf (Nat.lt_irrefl 0)
      · exact absurd rfl hne
      · have := h.lt' k3 hf
        rw [e1, e3 z k1 k2]
        show b ≠ _
        omega
    · rcases hm z f hz with ⟨rfl, rfl⟩ | ⟨rfl, rfl⟩ | ⟨k1, k2, k3⟩
      · exact absurd hf (Nat.lt_irrefl 0)
      · have := h.lt h3 hd
        rw [e1, e3 y h1 h2]
        show _ ≠ b
        omega
      · rw [e3 y h1 h2, e3 z k1 k2]
        exact h.ne y z d f h3 k3 hd hf hne
  · unfold rowMo
    rw [up_other _ _ (by omega), up_same]; rfl
  · unfold rowMo
    rw [up_same]; rfl
  · simp [AC.conc, rowAd, e1, e2]
/-- A part of a row of ours that a call has made can be read. -/
theorem SatM.rowA {ρ : Val} {m : Mem} {w : World} (h : SatM E ρ m w) {x n sz n2 g room : Nat} {ty : TypeId} {el : Nat → List Value} (hx : m x = some (.arr ty sz n2 el room)) (ho : AC.ok ρ m (.row x n g)) (hn : n ≤ n2) : RdRow w (rowAd ρ x) n sz el := by
  intro h0
  obtain ⟨h1, _, a, ha, _, he⟩ := h.ok x _ hx
  exact ⟨(ρ x).1, (ρ x).2, if_neg (ho.2.2.1 h0).1, lt_of_heap ha, fun i hi => ⟨(he i (by omega)).1, fun j hj => by rw [h1, Nat.zero_add, cell_of_heap ha]; exact (he i (by omega)).2 j hj⟩⟩
theorem SatM.ownA {ρ : Val} {m : Mem} {w : World} (h : SatM E ρ m w) {x n sz room : Nat} {ty : TypeId} {el : Nat → List Value} (hx : m x = some (.arr ty sz n el room)) : OwnAt w (ρ x).1 ty n sz el 0 := by
  obtain ⟨_, _, a, ha, hs, he⟩ := h.ok x _ hx
  exact ⟨a, ha, by omega, he⟩
theorem SatM.rowAd {ρ : Val} {m : Mem} {w : World} (h : SatM E ρ m w) {x n sz n2 g room : Nat} {ty : TypeId} {el : Nat → List Value} (hx : m x = some (.arr ty sz n2 el room)) (ho : AC.ok ρ m (.row x n g)) (h0 : 0 < n) : rowAd ρ x = some ⟨(ρ x).1, 0, none⟩ := by
  have h1 := (h.ok x _ hx).1
  unfold Sx.rowAd
  rw [if_neg (ho.2.2.1 h0).1, h1]
def msO (x : Nat) (ty : TypeId) (n sz : Nat) (el : Nat → List Value) : List (Nat × Blk) := [(x + 50, .ro 0 0 fun _ => []), (x, .arr ty sz n el 0)]
theorem upm_msO (m : Mem) (x : Nat) (ty : TypeId) (n sz : Nat) (el : Nat → List Value) : upm m (msO x ty n sz el) = rowMo m x ty n sz el := by
  funext y
  simp only [upm, msO, rowMo, up, mget]
  cases Nat.beq y (x + 50) with
  | true => rfl
  | false => cases Nat.beq y x <;> rfl
theorem Steps.callOwnR {ops : Array Oper} {o : Oper} {c : Call} {f : FuncId} {avs : List AV} {caps : List Cap} {C : St} (x : Nat) (ty : TypeId) (n sz : Nat) (el : Nat → List Value) (hg : o.guard = none) (hop : o.op = .call c) (he : callE C.t c = .mk f avs caps) (hd : dstOk E.N o.dst = true) (hx : C.m x = none) (hx2 : C.m (x + 50) = none) (hxb : Nat.blt (x + 50) 1000 = true)
    (hcf : ∀ (args : Array Value) (w : World), (callFunc f args).run P w = .ok (.enter f args) w)
    (hc : ∀ m, LeM C.m m → ∀ ρ w, SatM E ρ m w → (∀ v ∈ avs, v.ok ρ m) → Calls P f (avs.map (AV.conc ρ) ++ caps.map (Cap.conc ρ)).toArray w fun e w' => OwnNew w w' e ty n sz el ∧ Below w.heap.size w w') :
    Steps P E ops o C (.v (.c (.row x n E.w0.heap.size))) (msO x ty n sz el) := by
  intro st hle ρ a w hs Kc Q hk
  have hs' := hs.weakT hle.t
  obtain ⟨hr, hok, hok2⟩ := call_run hs' hop he hcf
  rw [if_pos (by simp [Region.wanted, hg])]
  unfold Oper.wp
  rw [hr]
  refine (hc st.m hle.m ρ w hs.mem hok).mono ?_
  rintro e w' ⟨⟨b, cp, rfl, h1, h2, h3⟩, hb⟩
  have n1 : st.m x = none := by
    rw [hle.n x (by simp only [msO, mget]; cases Nat.beq x (x + 50) <;> simp)]
    exact hx
  have n2 : st.m (x + 50) = none := by
    rw [hle.n (x + 50) (by simp [msO, mget])]
    exact hx2
  obtain ⟨ρ', k1, k2, k3, k4⟩ := hs.mem.addOwnRow hb n1 n2 hxb h2 h3 h1
  refine hk ρ' _ w' ?_
  rw [upm_msO]
  exact (hs.move k2 (fun y hy => isSome_up y (isSome_up y hy)) k1).putT (dstOk_lt hd) ⟨k3, k4.symm⟩
theorem GD.callOwnR {l : List Oper} {cls : List Nat} {X : List (Nat × Nat)} {base : St} {recs : List DR} {o : Oper} {rest : List Oper} {t : Nat → TV} {m : Mem} {c : Call} {f : FuncId} {avs : List AV} {caps : List Cap} (x : Nat) (ty : TypeId) (n sz : Nat) (el : Nat → List Value) (i : Nat) (hi : recs.length = i) (hg : o.guard = none) (hop : o.op = .call c) (he : callE (canF l cls X base i recs).t c = .mk f avs caps) (hd : dstOk E.N o.dst = true)
    (hx : (canF l cls X base i recs).m x = none) (hx2 : (canF l cls X base i recs).m (x + 50) = none) (hxb : Nat.blt (x + 50) 1000 = true) (hw : Wok X i o (msO x ty n sz el) = true)
    (hcf : ∀ (args : Array Value) (w : World), (callFunc f args).run P w = .ok (.enter f args) w)
    (hc : ∀ m, LeM (canF l cls X base i recs).m m → ∀ ρ w, SatM E ρ m w → (∀ v ∈ avs, v.ok ρ m) → Calls P f (avs.map (AV.conc ρ) ++ caps.map (Cap.conc ρ)).toArray w fun e w' => OwnNew w w' e ty n sz el ∧ Below w.heap.size w w')
    (k : GD P E K l cls X base (⟨o, .v (.c (.row x n E.w0.heap.size)), msO x ty n sz el⟩ :: recs) rest (Sx.putT t o.dst (.v (.c (.row x n E.w0.heap.size)))) (upm m (msO x ty n sz el))) : GD P E K l cls X base recs (o :: rest) t m := by
  rw [canF_eq hi] at he hx hx2 hc
  exact GD.step (Steps.callOwnR x ty n sz el hg hop he hd hx hx2 hxb hcf hc) (by rw [hi]; exact hw) k
/-- A call that turns a row of ours and answers with a part of it. -/
theorem Steps.callTurnR {ops : Array Oper} {o : Oper} {c : Call} {f : FuncId} {avs : List AV} {caps : List Cap} {C : St} (x : Nat) (ty : TypeId) (n n' sz g : Nat) (el el' : Nat → List Value) (hg : o.guard = none) (hop : o.op = .call c) (he : callE C.t c = .mk f avs caps) (hd : dstOk E.N o.dst = true) (hx : C.m x = some (.arr ty sz n el 0)) (hin : .c (.row x n g) ∈ avs) (hn : n' ≤ n)
    (hcf : ∀ (args : Array Value) (w : World), (callFunc f args).run P w = .ok (.enter f args) w)
    (hc : ∀ m, LeM C.m m → ∀ ρ w, SatM E ρ m w → (∀ v ∈ avs, v.ok ρ m) → Calls P f (avs.map (AV.conc ρ) ++ caps.map (Cap.conc ρ)).toArray w fun e w' => e = .returned (AC.conc ρ (.row x n' g)) ∧ Fr w [(ρ x).1] w' ∧ OwnAt w' (ρ x).1 ty n' sz el' 0) :
    Steps P E ops o C (.v (.c (.row x n' g))) [(x, .arr ty sz n' el' 0)] := by
  intro st hle ρ a w hs Kc Q hk
  have hs' := hs.weakT hle.t
  obtain ⟨hr, hok, hok2⟩ := call_run hs' hop he hcf
  rw [if_pos (by simp [Region.wanted, hg])]
  unfold Oper.wp
  rw [hr]
  refine (hc st.m hle.m ρ w hs.mem hok).mono ?_
  rintro e w' ⟨rfl, hf, hn2⟩
  have hl : ownL C.m [⟨x, .arr ty sz n' el' 0⟩] := ⟨⟨_, hx, trivial⟩, trivial⟩
  have hm := hs.mem.turnL (ownL_le hle.m hl) (l := [⟨x, .arr ty sz n' el' 0⟩]) trivial hf ⟨hn2, trivial⟩
  have hr0 : AC.ok ρ st.m (.row x n g) := hok _ hin
  have hr1 : AC.ok ρ (turnedB st.m [⟨x, .arr ty sz n' el' 0⟩]) (.row x n' g) := by
    obtain ⟨q1, q2, q3, q4⟩ := hr0
    exact ⟨isSome_turnedB _ q1, isSome_turnedB _ q2, fun h0 => q3 (by omega), by omega⟩
  refine hk ρ _ w' ?_
  have e : upm st.m [(x, .arr ty sz n' el' 0)] = turnedB st.m [⟨x, .arr ty sz n' el' 0⟩] := upm_msB st.m [⟨x, .arr ty sz n' el' 0⟩]
  rw [e]
  exact (hs.move hm (fun y hy => isSome_turnedB y hy) (fun _ _ => rfl)).putT (dstOk_lt hd) ⟨hr1, rfl⟩
theorem GD.callTurnR {l : List Oper} {cls : List Nat} {X : List (Nat × Nat)} {base : St} {recs : List DR} {o : Oper} {rest : List Oper} {t : Nat → TV} {m : Mem} {c : Call} {f : FuncId} {avs : List AV} {caps : List Cap} (x : Nat) (ty : TypeId) (n n' sz g : Nat) (el el' : Nat → List Value) (i : Nat) (hi : recs.length = i) (hg : o.guard = none) (hop : o.op = .call c) (he : callE (canF l cls X base i recs).t c = .mk f avs caps) (hd : dstOk E.N o.dst = true)
    (hx : (canF l cls X base i recs).m x = some (.arr ty sz n el 0)) (hin : .c (.row x n g) ∈ avs) (hn : n' ≤ n) (hw : Wok X i o [(x, .arr ty sz n' el' 0)] = true)
    (hcf : ∀ (args : Array Value) (w : World), (callFunc f args).run P w = .ok (.enter f args) w)
    (hc : ∀ m, LeM (canF l cls X base i recs).m m → ∀ ρ w, SatM E ρ m w → (∀ v ∈ avs, v.ok ρ m) → Calls P f (avs.map (AV.conc ρ) ++ caps.map (Cap.conc ρ)).toArray w fun e w' => e = .returned (AC.conc ρ (.row x n' g)) ∧ Fr w [(ρ x).1] w' ∧ OwnAt w' (ρ x).1 ty n' sz el' 0)
    (k : GD P E K l cls X base (⟨o, .v (.c (.row x n' g)), [(x, .arr ty sz n' el' 0)]⟩ :: recs) rest (Sx.putT t o.dst (.v (.c (.row x n' g)))) (upm m [(x, .arr ty sz n' el' 0)])) : GD P E K l cls X base recs (o :: rest) t m := by
  rw [canF_eq hi] at he hx hc
  exact GD.step (Steps.callTurnR x ty n n' sz g el el' hg hop he hd hx hin hn hcf hc) (by rw [hi]; exact hw) k
/-! ### A function that turns a row of its caller's and answers with a part of it -/
def endBwS (T : Tab) (fn : Func) (x sz n c : Nat) (O : List Bw) : Exit → St → Prop := fun e st => (e = .ret ∨ e = .normal) ∧ (∃ r, fn.results.toList = [r] ∧ resOne T st r = .v (.c (.slc x 0 sz n c))) ∧ outAll st.m O
theorem enterBwS (hT : Tab.fine P T) {f : FuncId} {fn : Func} {c : Code} {args : Array Value} {w : World} (x g sz n cp : Nat) (C O : List Bw) (hf : P.funcs[f]? = some fn) (hb : fn.body = some c) (N : Nat) (hN : fn.ntmps = N) (avs : List AV) (l : List Inp) (hr : allRd w l) (hlo : lowI l) (hp : pairsBw C) (hfit : allBw (Bw.fit w (bwV l C) l C) C)
    (hargs : args = (avs.map (AV.conc (bwV l C))).toArray) (hl : Nat.ble avs.length N = true) (ha : allAVb l C avs) (hO : ∀ b ∈ O, ∃ c ∈ C, c.x = b.x ∧ c.g = b.g) (hOc : allBw (fun b => cellsB l C b.b) O) (hxg : ∃ c ∈ C, c.x = x ∧ c.g = g)
    (h : G P ⟨w, bwB C, N⟩ (endBwS T fn x sz n cp O) c ⟨argsT avs, bwM l C⟩) : Calls P f args w fun e w' => e = .returned (.slice (some ⟨g, 0, none⟩) n cp) ∧ Fr w (C.map (·.g)) w' ∧ rawAll (bwV l C) w' O := by
  subst hN
  refine enter (E := ⟨w, bwB C, fn.ntmps⟩) hf hb (bwV l C) (Sat.initBw hr hlo hp hfit ha hargs (Nat.le_of_ble_eq_true hl)) (h.mono fun e st hk => ⟨hk.1, fun ρ a w' hs => ?_⟩)
  obtain ⟨_, ⟨r, hr1, hr2⟩, h2⟩ := hk
  have hρ : ∀ c ∈ C, ρ c.x = (c.g, 0) := fun c hc => (hs.mem.bo (c.x, c.g) (List.mem_map.2 ⟨c, hc, rfl⟩)).1
  obtain ⟨h3, _⟩ := resOne_run hT hs hr2
  refine ⟨_, results_one hr1 h3, ?_, ?_, rawAll_of fun b hb => ?_⟩
  · obtain ⟨c, hc, rfl, rfl⟩ := hxg
    simp [AV.conc, AC.conc, hρ c hc]
  · have := hs.mem.fr
    simp only [bwB, List.map_map] at this
    exact this
  · obtain ⟨c, hc, e1, e2⟩ := hO b hb
    have ho := outAll_mem h2 b hb
    have hbx : ρ b.x = (b.g, 0) := by rw [← e1, ← e2]; exact hρ c hc
    cases hbb : b.b with
    | var ty cells =>
      rw [hbb] at ho
      have hk := (hs.mem.ok b.x _ ho).2.2.1
      have hcells := allBw_mem hOc b hb
      rw [hbb] at hcells
      rw [hbx, conc_bw (fun c hc => (hρ c hc).trans (bw_at (l := l) hp hc).1.symm) hcells] at hk
      exact hk
    | arr ty sz n el room =>
      rw [hbb] at ho
      obtain ⟨el2, room2, h3, h4⟩ := ho
      have hk := (hs.mem.ok b.x _ h3).2.2
      rw [hbx] at hk
      obtain ⟨a, h5, h6, h7⟩ := hk
      exact ⟨a, h5, by omega, fun i hi => by rw [← h4 i hi]; exact h7 i hi⟩
    | ro sz n el => rw [hbb] at ho; exact ho.elim
    | obj Q => rw [hbb] at ho; exact ho.elim
theorem endBwS.ret {fn : Func} {x sz n c : Nat} {O : List Bw} {st : St} {r : ResultVar} (h : fn.results.toList = [r]) (h1 : resOne T st r = .v (.c (.slc x 0 sz n c))) (h2 : outAll st.m O) : endBwS T fn x sz n c O .ret st := ⟨.inl rfl, ⟨r, h, h1⟩, h2⟩
/-! ### Slices with three bounds, the empty end of a slice -/
theorem GO.slice3 (hT : Tab.fine P T) {ops : Array Oper} {rest : List Oper} {o : Oper} {t e x sz n c : Nat} {y lo hi mx : Operand} {dd de : TyD} {t0 : Nat → TV} {m : Mem} (l h q : Int) (hg : o.guard = none) (hop : o.op = .slice t y (some lo) (some hi) (some mx)) (hd : dstOk E.N o.dst = true) (ht : T t = some dd) (hk : dd.kind = .slice e) (he : T e = some de)
    (hy : evT t0 y = .v (.c (.slc x 0 sz n c))) (hlo : evT t0 lo = .v (.c (.k (.int .i64 l)))) (hhi : evT t0 hi = .v (.c (.k (.int .i64 h)))) (hmx : evT t0 mx = .v (.c (.k (.int .i64 q)))) (b0 : 0 ≤ l) (b1 : l ≤ h) (b2 : h ≤ q) (b3 : q ≤ (c : Int))
    (k : GO P E ops K rest ⟨Sx.putT t0 o.dst .unk, m⟩) : GO P E ops K (o :: rest) ⟨t0, m⟩ := by
  intro ρ a w hs
  have hkind := (hT.ok t dd ht).kind
  rw [hk] at hkind
  have hsz := (hT.ok e de he).size w
  have ev := fun z => hs.eval z
  have e1 : ∃ A, a.eval y = .slice A n c := by have := ev y; rw [show (St.mk t0 m).ev y = _ from hy] at this; exact ⟨_, this.2⟩
  obtain ⟨A, e1⟩ := e1
  have e2 : a.eval lo = .int .i64 l := by have := ev lo; rw [show (St.mk t0 m).ev lo = _ from hlo] at this; exact this.2
  have e3 : a.eval hi = .int .i64 h := by have := ev hi; rw [show (St.mk t0 m).ev hi = _ from hhi] at this; exact this.2
  have e4 : a.eval mx = .int .i64 q := by have := ev mx; rw [show (St.mk t0 m).ev mx = _ from hmx] at this; exact this.2
  have eh : (h.toNat : Int) = h := Int.toNat_of_nonneg (by omega)
  have em : (q.toNat : Int) = q := Int.toNat_of_nonneg (by omega)
  have hbd : (Instr.sliceBounds true n c (some (.int .i64 l)) (some (.int .i64 h)) (some (.int .i64 q))).run P w = .ok (l.toNat, h.toNat, q.toNat) w := by
    simp [Instr.sliceBounds, run_sliceBound, *, eh, em, (by omega : 0 ≤ l), (by omega : 0 ≤ h), (by omega : 0 ≤ q)]
  have hrun : ∃ v, (execOp a.eval o).run P w = .ok (.value v) w := by
    refine ⟨.slice (if q.toNat = l.toNat then A else A.map (·.add (l.toNat * de.size))) (h.toNat - l.toNat) (q.toNat - l.toNat), ?_⟩
    simp only [execOp, hop, Instr.sliceAt, Instr.slice, Sem.run_bind, hkind w, Result.andThen_ok, e1, e2, e3, e4, Option.map_some, hbd, hsz, Sem.run_pure]
  obtain ⟨v, hrun⟩ := hrun
  unfold wpList
  rw [if_pos (by simp [Region.wanted, hg])]
  refine .inl ?_
  exact Snd.go hs (dstOk_lt hd) (tv := .unk) (Snd.here hs.mem hrun trivial) fun ρ' a' w' hs'' => k ρ' a' w' hs''
theorem Steps.sliceEnd (hT : Tab.fine P T) {ops : Array Oper} {o : Oper} {t e x n : Nat} {y lo : Operand} {dd de : TyD} {C : St} (hg : o.guard = none) (hop : o.op = .slice t y (some lo) none none) (hd : dstOk E.N o.dst = true) (ht : T t = some dd) (hk : dd.kind = .slice e) (he : T e = some de)
    (hy : evT C.t y = .v (.c (.slc x 0 de.size n n))) (hlo : evT C.t lo = .v (.c (.k (.int .i64 n)))) : Steps P E ops o C (.v (.c (.slc x 0 de.size 0 0))) [] := by
  intro st hle ρ a w hs Kc Q hk2
  have hs' := hs.weakT hle.t
  rw [if_pos (by simp [Region.wanted, hg])]
  have hkind := (hT.ok t dd ht).kind
  rw [hk] at hkind
  have hsz := (hT.ok e de he).size w
  have hy' := hs'.eval y
  rw [show (St.mk C.t st.m).ev y = _ from hy] at hy'
  have e1 : a.eval y = .slice (some ⟨(ρ x).1, (ρ x).2 + 0 * de.size, none⟩) n n := hy'.2
  have e2 : a.eval lo = .int .i64 n := by have := hs'.eval lo; rw [show (St.mk C.t st.m).ev lo = _ from hlo] at this; exact this.2
  have hbd : (Instr.sliceBounds true n n (some (.int .i64 n)) none none).run P w = .ok (n, n, n) w := by
    simp [Instr.sliceBounds, run_sliceBound]
  refine Snd.go hs (dstOk_lt hd) (tv := .v (.c (.slc x 0 de.size 0 0))) (Snd.here hs.mem (v := .slice (some ⟨(ρ x).1, (ρ x).2 + 0 * de.size, none⟩) 0 0) ?_ ⟨hy'.1, rfl⟩) fun ρ' a' w' hs'' => hk2 ρ' a' w' hs''
  simp only [execOp, hop, Instr.sliceAt, Instr.slice, Sem.run_bind, hkind w, Result.andThen_ok, e1, e2, Option.map_some, Option.map_none, hbd, hsz, Sem.run_pure, if_true, Nat.sub_self]
theorem GD.sliceEnd (hT : Tab.fine P T) {l : List Oper} {cls : List Nat} {X : List (Nat × Nat)} {base : St} {recs : List DR} {rest : List Oper} {tt : Nat → TV} {m : Mem} {o : Oper} {t e x n : Nat} {y lo : Operand} {dd de : TyD} (i : Nat) (hi : recs.length = i) (hg : o.guard = none) (hop : o.op = .slice t y (some lo) none none) (hd : dstOk E.N o.dst = true) (ht : T t = some dd) (hk : dd.kind = .slice e) (he : T e = some de)
    (hy : evT (canF l cls X base i recs).t y = .v (.c (.slc x 0 de.size n n))) (hlo : evT (canF l cls X base i recs).t lo = .v (.c (.k (.int .i64 n))))
    (k : GD P E K l cls X base (⟨o, .v (.c (.slc x 0 de.size 0 0)), []⟩ :: recs) rest (Sx.putT tt o.dst (.v (.c (.slc x 0 de.size 0 0)))) m) : GD P E K l cls X base recs (o :: rest) tt m := by
  rw [canF_eq hi] at hy hlo
  exact GD.step (Steps.sliceEnd hT hg hop hd ht hk he hy hlo) rfl k
end
end Go.Sx
