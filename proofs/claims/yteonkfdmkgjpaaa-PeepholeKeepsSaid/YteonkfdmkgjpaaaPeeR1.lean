/- The reference of layer 32: control, inverse, Cancels. -/
import Derived.Test.YteonkfdmkgjpaaaPeeW1
import Derived.Test.YteonkfdmkgjpaaaCopy3
import Derived.Deep.RegionHeld3
import Derived.Deep.DeepCutAuto
import Derived.BigQuiet
import Derived.Deep.QuietTactic
import Derived.BigRegion
import Derived.Deep.CutBlock
namespace Go.Proofs.Yteonkfdmkgjpaaa
open Go.RowKit
set_option linter.unusedVariables false
set_option linter.unusedSimpArgs false

namespace Pee
def ctlo (op : Int) : Bool := op == 0 || (decide (21 ≤ op) && decide (op ≤ 27)) || decide (30 ≤ op)
def rinv (op : Int) : Int := if op = 1 then 2 else if op = 2 then 1 else if op = 4 then 5 else if op = 5 then 4 else if op = 12 then 13 else if op = 13 then 12 else if op = 17 then 18 else if op = 18 then 17 else if op = 19 then 20 else if op = 20 then 19 else if op = 28 then 29 else if op = 29 then 28 else op
def rcancels (a b : Ins) : Bool := !ctlo a.op && decide (({ a with op := rinv a.op } : Ins) = b)
theorem ref_ops (n : Fin 35) : ctlo (n.val : Int) = !rmv (n.val : Int) ∧ (rmv (n.val : Int) = true → rinv (n.val : Int) = Isa.inv (n.val : Int)) := by revert n; decide
theorem rcan_eq {a : Ins} (b : Ins) : (Img.vl a && rcancels a b) = cancels a b := by
  unfold cancels
  cases hv : Img.vl a with
  | false => rfl
  | true =>
    rcases Isa.row_range a.op with ⟨n, hn⟩ | h
    · obtain ⟨h1, h2⟩ := ref_ops n
      unfold rcancels Img.inv
      rw [hn, h1]
      cases hr : rmv (n.val : Int) with
      | false => rfl
      | true => rw [h2 hr]; rfl
    · exfalso
      unfold Img.vl Isa.vld at hv
      rw [h] at hv
      simp at hv
end Pee
theorem rcontrol_any (op : Int) (h0 : 0 ≤ op) (w : World) : Calls Try.prog 61 #[.int .u8 op] w fun e w' => e = .returned (.bool (Pee.ctlo op)) ∧ w = w' := by
  unfold Pee.ctlo
  cases p1 : (op == 0) <;> cases p2 : decide (21 ≤ op) <;> cases p3 : decide (op ≤ 27) <;> cases p4 : decide (30 ≤ op)
  all_goals
    go_enter Try.func61, Try.ntmps61
    go_wp2
    go_ret
    exact ⟨rfl, rfl⟩

set_option maxHeartbeats 8000000 in
theorem pinverse_any (op : Int) (w : World) : Calls Try.prog 62 #[.int .u8 op] w fun e w' => e = .returned (.int .u8 (Pee.rinv op)) ∧ Below w.heap.size w w' := by
  obtain ⟨r, HR⟩ : ∃ r, Hid (Pee.rinv op = r) := ⟨_, Lib.hid rfl⟩
  rw [HR.out]
  have hS : Sx w [] [] w :=  (Sx.start (F := []) w (fun _ h => by cases h))
  have hc : True := trivial
  go_enter Try.func62, Try.ntmps62
  go_upto_region 2 with fail
  apply wp_abs (w0 := w)
  · (repeat (first | with_reducible apply Sx.alloc | with_reducible apply Sx.drew | with_reducible apply Sx.drewN | with_reducible exact hS))
  intro wx hS2; clear hS; have hS := hS2; clear hS2; (try simp only [World.size_alloc, World.size_drew] at hS)
  clear hc; have hc := hS.cellsL; simp only [CellsL, CellsF, Nat.zero_add, Nat.reduceAdd, and_true, true_and] at hc
  go_wp2
  obtain ⟨wo, hwo⟩ : ∃ wo : World, wo = wx := ⟨_, rfl⟩
  rw [← hwo] at hS hc ⊢
  clear hwo hc
  go_loopw [4] (fun s wr => ∃ j : Nat, j ≤ 6 ∧ s = .int .i64 (2 * (j : Int)) ∧ Hid (∀ q, q < 2 * j → op ≠ ([1, 2, 4, 5, 12, 13, 17, 18, 19, 20, 28, 29] : List Int).getD q 0) ∧ Sx w [(w.heap.size, 5, #[.int .u8 1, .int .u8 2, .int .u8 4, .int .u8 5, .int .u8 12, .int .u8 13, .int .u8 17, .int .u8 18, .int .u8 19, .int .u8 20, .int .u8 28, .int .u8 29])] [] wr) (fun s _ => 12 - (intOf s).toNat)
  case atStart => exact ⟨0, by omega, rfl, Lib.hid (fun q h => by omega), hS⟩
  case round =>
    clear hS
    obtain ⟨j, hj, rfl, HJ, hS⟩ := hrel
    have hc := hS.cellsL
    simp only [CellsL, CellsF, Nat.zero_add, Nat.reduceAdd, and_true, true_and] at hc
    rcases (show j = 0 ∨ j = 1 ∨ j = 2 ∨ j = 3 ∨ j = 4 ∨ j = 5 ∨ j = 6 by omega) with rfl | rfl | rfl | rfl | rfl | rfl | rfl
    · by_cases e1 : op = 1
      · subst e1
        have hr : r = 2 := by rw [← HR.out]; decide
        subst hr
        go_wp2
        go_ret
        exact ⟨rfl, hS.below⟩
      by_cases e2 : op = 2
      · subst e2
        have hr : r = 1 := by rw [← HR.out]; decide
        subst hr
        go_wp2
        go_ret
        exact ⟨rfl, hS.below⟩
      have b1 : ((1 : Int) == op) = false := beq_eq_false_iff_ne.2 (Ne.symm e1)
      have b2 : ((2 : Int) == op) = false := beq_eq_false_iff_ne.2 (Ne.symm e2)
      have HN := Lib.hid (show ∀ q, q < 2 * 1 → op ≠ ([1, 2, 4, 5, 12, 13, 17, 18, 19, 20, 28, 29] : List Int).getD q 0 from fun q hq => by
        rcases (show q < 0 ∨ q = 0 ∨ q = 1 by omega) with h | rfl | rfl
        · exact HJ.out q h
        · exact e1
        · exact e2)
      clear e1 e2
      go_wp2
      go_roundw
      case rel => exact ⟨1, by omega, rfl, HN, hS⟩
      case measure => simp [intOf]
    · by_cases e1 : op = 4
      · subst e1
        have hr : r = 5 := by rw [← HR.out]; decide
        subst hr
        go_wp2
        go_ret
        exact ⟨rfl, hS.below⟩
      by_cases e2 : op = 5
      · subst e2
        have hr : r = 4 := by rw [← HR.out]; decide
        subst hr
        go_wp2
        go_ret
        exact ⟨rfl, hS.below⟩
      have b1 : ((4 : Int) == op) = false := beq_eq_false_iff_ne.2 (Ne.symm e1)
      have b2 : ((5 : Int) == op) = false := beq_eq_false_iff_ne.2 (Ne.symm e2)
      have HN := Lib.hid (show ∀ q, q < 2 * 2 → op ≠ ([1, 2, 4, 5, 12, 13, 17, 18, 19, 20, 28, 29] : List Int).getD q 0 from fun q hq => by
        rcases (show q < 2 ∨ q = 2 ∨ q = 3 by omega) with h | rfl | rfl
        · exact HJ.out q h
        · exact e1
        · exact e2)
      clear e1 e2
      go_wp2
      go_roundw
      case rel => exact ⟨2, by omega, rfl, HN, hS⟩
      case measure => simp [intOf]
    · by_cases e1 : op = 12
      · subst e1
        have hr : r = 13 := by rw [← HR.out]; decide
        subst hr
        go_wp2
        go_ret
        exact ⟨rfl, hS.below⟩
      by_cases e2 : op = 13
      · subst e2
        have hr : r = 12 := by rw [← HR.out]; decide
        subst hr
        go_wp2
        go_ret
        exact ⟨rfl, hS.below⟩
      have b1 : ((12 : Int) == op) = false := beq_eq_false_iff_ne.2 (Ne.symm e1)
      have b2 : ((13 : Int) == op) = false := beq_eq_false_iff_ne.2 (Ne.symm e2)
      have HN := Lib.hid (show ∀ q, q < 2 * 3 → op ≠ ([1, 2, 4, 5, 12, 13, 17, 18, 19, 20, 28, 29] : List Int).getD q 0 from fun q hq => by
        rcases (show q < 4 ∨ q = 4 ∨ q = 5 by omega) with h | rfl | rfl
        · exact HJ.out q h
        · exact e1
        · exact e2)
      clear e1 e2
      go_wp2
      go_roundw
      case rel => exact ⟨3, by omega, rfl, HN, hS⟩
      case measure => simp [intOf]
    · by_cases e1 : op = 17
      · subst e1
        have hr : r = 18 := by rw [← HR.out]; decide
        subst hr
        go_wp2
        go_ret
        exact ⟨rfl, hS.below⟩
      by_cases e2 : op = 18
      · subst e2
        have hr : r = 17 := by rw [← HR.out]; decide
        subst hr
        go_wp2
        go_ret
        exact ⟨rfl, hS.below⟩
      have b1 : ((17 : Int) == op) = false := beq_eq_false_iff_ne.2 (Ne.symm e1)
      have b2 : ((18 : Int) == op) = false := beq_eq_false_iff_ne.2 (Ne.symm e2)
      have HN := Lib.hid (show ∀ q, q < 2 * 4 → op ≠ ([1, 2, 4, 5, 12, 13, 17, 18, 19, 20, 28, 29] : List Int).getD q 0 from fun q hq => by
        rcases (show q < 6 ∨ q = 6 ∨ q = 7 by omega) with h | rfl | rfl
        · exact HJ.out q h
        · exact e1
        · exact e2)
      clear e1 e2
      go_wp2
      go_roundw
      case rel => exact ⟨4, by omega, rfl, HN, hS⟩
      case measure => simp [intOf]
    · by_cases e1 : op = 19
      · subst e1
        have hr : r = 20 := by rw [← HR.out]; decide
        subst hr
        go_wp2
        go_ret
        exact ⟨rfl, hS.below⟩
      by_cases e2 : op = 20
      · subst e2
        have hr : r = 19 := by rw [← HR.out]; decide
        subst hr
        go_wp2
        go_ret
        exact ⟨rfl, hS.below⟩
      have b1 : ((19 : Int) == op) = false := beq_eq_false_iff_ne.2 (Ne.symm e1)
      have b2 : ((20 : Int) == op) = false := beq_eq_false_iff_ne.2 (Ne.symm e2)
      have HN := Lib.hid (show ∀ q, q < 2 * 5 → op ≠ ([1, 2, 4, 5, 12, 13, 17, 18, 19, 20, 28, 29] : List Int).getD q 0 from fun q hq => by
        rcases (show q < 8 ∨ q = 8 ∨ q = 9 by omega) with h | rfl | rfl
        · exact HJ.out q h
        · exact e1
        · exact e2)
      clear e1 e2
      go_wp2
      go_roundw
      case rel => exact ⟨5, by omega, rfl, HN, hS⟩
      case measure => simp [intOf]
    · by_cases e1 : op = 28
      · subst e1
        have hr : r = 29 := by rw [← HR.out]; decide
        subst hr
        go_wp2
        go_ret
        exact ⟨rfl, hS.below⟩
      by_cases e2 : op = 29
      · subst e2
        have hr : r = 28 := by rw [← HR.out]; decide
        subst hr
        go_wp2
        go_ret
        exact ⟨rfl, hS.below⟩
      have b1 : ((28 : Int) == op) = false := beq_eq_false_iff_ne.2 (Ne.symm e1)
      have b2 : ((29 : Int) == op) = false := beq_eq_false_iff_ne.2 (Ne.symm e2)
      have HN := Lib.hid (show ∀ q, q < 2 * 6 → op ≠ ([1, 2, 4, 5, 12, 13, 17, 18, 19, 20, 28, 29] : List Int).getD q 0 from fun q hq => by
        rcases (show q < 10 ∨ q = 10 ∨ q = 11 by omega) with h | rfl | rfl
        · exact HJ.out q h
        · exact e1
        · exact e2)
      clear e1 e2
      go_wp2
      go_roundw
      case rel => exact ⟨6, by omega, rfl, HN, hS⟩
      case measure => simp [intOf]
    · have hr : r = op := by
        rw [← HR.out]
        have h := HJ.out
        have g0 : op ≠ 1 := h 0 (by omega)
        have g1 : op ≠ 2 := h 1 (by omega)
        have g2 : op ≠ 4 := h 2 (by omega)
        have g3 : op ≠ 5 := h 3 (by omega)
        have g4 : op ≠ 12 := h 4 (by omega)
        have g5 : op ≠ 13 := h 5 (by omega)
        have g6 : op ≠ 17 := h 6 (by omega)
        have g7 : op ≠ 18 := h 7 (by omega)
        have g8 : op ≠ 19 := h 8 (by omega)
        have g9 : op ≠ 20 := h 9 (by omega)
        have g10 : op ≠ 28 := h 10 (by omega)
        have g11 : op ≠ 29 := h 11 (by omega)
        unfold Pee.rinv
        simp [g0, g1, g2, g3, g4, g5, g6, g7, g8, g9, g10, g11]
      subst hr
      go_wp2
      go_ret
      exact ⟨rfl, hS.below⟩

set_option maxHeartbeats 8000000 in
theorem rcancels_any (a b : Ins) (h0 : 0 ≤ a.op) (w : World) : Calls Try.prog 39 #[.agg #[.int .u8 (a).op, .int .i64 (a).a, .int .i64 (a).b, .int .i64 (a).c, .int .i64 (a).d], .agg #[.int .u8 (b).op, .int .i64 (b).a, .int .i64 (b).b, .int .i64 (b).c, .int .i64 (b).d]] w fun e w' => e = .returned (.bool (Pee.rcancels a b)) ∧ Below w.heap.size w w' := by
  have HC := Lib.hid (fun wx => rcontrol_any a.op h0 wx)
  have HI := Lib.hid (fun wx => pinverse_any a.op wx)
  have HP := Lib.hid (show Pee.rcancels a b = (!Pee.ctlo a.op && decide (({ a with op := Pee.rinv a.op } : Ins) = b)) from rfl)
  have hS : Sx w [] [] w :=  (Sx.start (F := []) w (fun _ h => by cases h))
  have hc : True := trivial
  go_enter Try.func39, Try.ntmps39
  go_upto_region 1 with fail
  apply wp_abs (w0 := w)
  · (repeat (first | with_reducible apply Sx.alloc | with_reducible apply Sx.drew | with_reducible apply Sx.drewN | with_reducible exact hS))
  intro wx hS2; clear hS; have hS := hS2; clear hS2; (try simp only [World.size_alloc, World.size_drew] at hS)
  clear hc; have hc := hS.cellsL; simp only [CellsL, CellsF, Nat.zero_add, Nat.reduceAdd, and_true, true_and] at hc
  cases hk : Pee.ctlo a.op
  · rw [hk] at HC HP
    generalize Pee.rinv a.op = i at *
    go_upto_region 4 with (first | (go_at_call 61; (first | (with_reducible refine (HC.out _).mono ?_)); rintro e wn ⟨rfl, rfl⟩) | (go_at_call 62; apply calls_abs (w0 := w); (repeat (first | with_reducible apply Sx.alloc | with_reducible apply Sx.drew | with_reducible apply Sx.drewN | with_reducible exact hS)); intro wx hS2; clear hS; have hS := hS2; clear hS2; (try simp only [World.size_alloc, World.size_drew] at hS); refine (HI.out _).mono ?_; rintro e wn ⟨rfl, hB⟩; replace hS := Sx.call hB hS; clear hB; clear hc; have hc := hS.cellsL; simp only [CellsL, CellsF, Nat.zero_add, Nat.reduceAdd, and_true, true_and] at hc))
    have hS9 : Sx w [(w.heap.size, 38, #[.int .u8 i, .int .i64 a.a, .int .i64 a.b, .int .i64 a.c, .int .i64 a.d]), (w.heap.size + 1, 38, #[.int .u8 (b).op, .int .i64 (b).a, .int .i64 (b).b, .int .i64 (b).c, .int .i64 (b).d])] [] (wn.setCell ⟨w.heap.size, 0, none⟩ (.int .u8 i)) := Sx.set1 ⟨hS.1.swap, hS.2⟩ (Nat.le_refl _) (by intro y hy; simp at hy; subst hy; simp) (by intro f hf; cases hf) 0 (.int .u8 i)
    refine wp_abs hS9 ?_
    intro wx hS2; clear hS; have hS := hS2; clear hS2; (try simp only [World.size_alloc, World.size_drew] at hS)
    clear hc
    have hc := hS.cellsL
    simp only [CellsL, CellsF, Nat.zero_add, Nat.reduceAdd, and_true, true_and] at hc
    clear hS9
    by_cases hyb : b = { op := i, a := a.a, b := a.b, c := a.c, d := a.d }
    · subst hyb
      have HP2 := Lib.hid (HP.out.trans (by simp : _ = true))
      clear HP
      go_wp2
      go_ret
      exact ⟨by rw [HP2.out]; rfl, hS.below⟩
    · have HP2 := Lib.hid (HP.out.trans (by simp [Ne.symm hyb] : _ = false))
      have hne := ins_ne (fun e => hyb (Eq.symm e))
      clear HP hyb
      dsimp only at hne
      rcases hne with e0 | ⟨e0, e1⟩ | ⟨e0, e1, e2⟩ | ⟨e0, e1, e2, e3⟩ | ⟨e0, e1, e2, e3, e4⟩
      all_goals
        go_wp2
        go_ret
        exact ⟨by rw [HP2.out]; rfl, hS.below⟩
  · rw [hk] at HC HP
    go_wp2_with (first | (go_at_call 61; (first | (with_reducible refine (HC.out _).mono ?_)); rintro e wn ⟨rfl, rfl⟩))
    go_ret
    exact ⟨by rw [HP.out]; rfl, hS.below⟩

end Go.Proofs.Yteonkfdmkgjpaaa
