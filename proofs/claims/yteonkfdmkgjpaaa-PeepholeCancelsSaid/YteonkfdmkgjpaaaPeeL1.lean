/- The walks of the laws of layer 32: PeepholeCancels. -/
import Derived.Test.YteonkfdmkgjpaaaPeeA
import Derived.Test.YteonkfdmkgjpaaaPeeR1
import Derived.Deep.RegionHeld3
import Derived.Deep.DeepCutAuto
import Derived.BigQuiet
import Derived.Deep.QuietTactic
import Derived.BigRegion
import Derived.Deep.CutBlock
namespace Go.Proofs.Yteonkfdmkgjpaaa
open Go.RowKit
set_option linter.unusedVariables false
set_option linter.unusedSimpArgs false

set_option maxHeartbeats 8000000 in
set_option maxRecDepth 100000 in
theorem peepholeCancels_any (a b : Ins) (h0 : 0 ≤ a.op) (w : World) : Calls Try.prog 12 #[.agg #[.int .u8 (a).op, .int .i64 (a).a, .int .i64 (a).b, .int .i64 (a).c, .int .i64 (a).d], .agg #[.int .u8 (b).op, .int .i64 (b).a, .int .i64 (b).b, .int .i64 (b).c, .int .i64 (b).d]] w fun e w' => e = .returned (.bool true) ∧ Below w.heap.size w w' := by
  obtain ⟨y, hy⟩ : ∃ y, Img.inv a = y := ⟨_, rfl⟩
  have HI := Lib.hid (inverse_ex a y hy)
  have HV := Lib.hid (vl_ex a _ rfl)
  have E1 := Pee.rcan_eq (a := a) b
  have E2 := Pee.rcan_eq (a := a) y
  have HC1 := Lib.hid (fun wx => pcancels_ex a b _ rfl wx)
  have HC2 := Lib.hid (fun wx => pcancels_ex a y _ rfl wx)
  have HR1 := Lib.hid (fun wx => rcancels_any a b h0 wx)
  have HR2 := Lib.hid (fun wx => rcancels_any a y h0 wx)
  rw [← E1] at HC1
  rw [← E2] at HC2
  clear E1 E2 hy h0
  generalize Img.vl a = q at *
  generalize Pee.rcancels a b = r1 at *
  generalize Pee.rcancels a y = r2 at *
  have hS : Sx w [] [] w :=  (Sx.start (F := []) w (fun _ h => by cases h))
  have hc : True := trivial
  go_enter Try.func12, Try.ntmps12
  go_upto_region 4 with (first | (go_at_call 37; apply calls_abs (w0 := w); (repeat (first | with_reducible apply Sx.alloc | with_reducible apply Sx.drew | with_reducible apply Sx.drewN | with_reducible exact hS)); intro wx hS2; clear hS; have hS := hS2; clear hS2; (try simp only [World.size_alloc, World.size_drew] at hS); refine (peeAwake_any _).mono ?_; rintro e wn ⟨rfl, hB⟩; replace hS := Sx.call hB hS; clear hB; clear hc; have hc := hS.cellsL; simp only [CellsL, CellsF, Nat.zero_add, Nat.reduceAdd, and_true, true_and] at hc) | (go_at_call 32; apply calls_abs (w0 := w); (repeat (first | with_reducible apply Sx.alloc | with_reducible apply Sx.drew | with_reducible apply Sx.drewN | with_reducible exact hS)); intro wx hS2; clear hS; have hS := hS2; clear hS2; (try simp only [World.size_alloc, World.size_drew] at hS); refine (HI.out _).mono ?_; rintro e wn ⟨rfl, hB⟩; replace hS := Sx.call hB hS; clear hB; clear hc; have hc := hS.cellsL; simp only [CellsL, CellsF, Nat.zero_add, Nat.reduceAdd, and_true, true_and] at hc; obtain ⟨b1, hb1⟩ : ∃ q, wn.heap.size = q := ⟨_, rfl⟩; simp only [hb1] at hc))
  apply wp_abs (w0 := w)
  · (repeat (first | with_reducible apply Sx.alloc | with_reducible apply Sx.drew | with_reducible apply Sx.drewN | with_reducible exact hS))
  intro wx hS2; clear hS; have hS := hS2; clear hS2; (try simp only [World.size_alloc, World.size_drew] at hS)
  clear hc; have hc := hS.cellsL; simp only [CellsL, CellsF, Nat.zero_add, Nat.reduceAdd, and_true, true_and] at hc
  simp only [hb1] at hS hc ⊢
  go_upto_region 5 with (first | (go_at_call 38; apply calls_abs (w0 := w); (repeat (first | with_reducible apply Sx.alloc | with_reducible apply Sx.drew | with_reducible apply Sx.drewN | with_reducible exact hS)); intro wx hS2; clear hS; have hS := hS2; clear hS2; (try simp only [World.size_alloc, World.size_drew] at hS); refine (HC1.out _).mono ?_; rintro e wn ⟨rfl, hB⟩; replace hS := Sx.call hB hS; clear hB; clear hc; have hc := hS.cellsL; simp only [CellsL, CellsF, Nat.zero_add, Nat.reduceAdd, and_true, true_and] at hc))
  apply wp_abs (w0 := w)
  · (repeat (first | with_reducible apply Sx.alloc | with_reducible apply Sx.drew | with_reducible apply Sx.drewN | with_reducible exact hS))
  intro wx hS2; clear hS; have hS := hS2; clear hS2; (try simp only [World.size_alloc, World.size_drew] at hS)
  clear hc; have hc := hS.cellsL; simp only [CellsL, CellsF, Nat.zero_add, Nat.reduceAdd, and_true, true_and] at hc
  clear hb1 HI
  have HK2 := Lib.hid (show ∀ wx, Sx w [(b1, 38, #[.int .u8 (y).op, .int .i64 (y).a, .int .i64 (y).b, .int .i64 (y).c, .int .i64 (y).d]), (w.heap.size + 1, 38, #[.int .u8 (b).op, .int .i64 (b).a, .int .i64 (b).b, .int .i64 (b).c, .int .i64 (b).d]), (w.heap.size, 38, #[.int .u8 (a).op, .int .i64 (a).a, .int .i64 (a).b, .int .i64 (a).c, .int .i64 (a).d])] [] wx → (wx.cell? ⟨b1, 0, none⟩ = some (Value.int .u8 (y).op) ∧ wx.cell? ⟨b1, 1, none⟩ = some (Value.int .i64 (y).a) ∧ wx.cell? ⟨b1, 2, none⟩ = some (Value.int .i64 (y).b) ∧ wx.cell? ⟨b1, 3, none⟩ = some (Value.int .i64 (y).c) ∧ wx.cell? ⟨b1, 4, none⟩ = some (Value.int .i64 (y).d) ∧ wx.cell? ⟨w.heap.size + 1, 0, none⟩ = some (Value.int .u8 (b).op) ∧ wx.cell? ⟨w.heap.size + 1, 1, none⟩ = some (Value.int .i64 (b).a) ∧ wx.cell? ⟨w.heap.size + 1, 2, none⟩ = some (Value.int .i64 (b).b) ∧ wx.cell? ⟨w.heap.size + 1, 3, none⟩ = some (Value.int .i64 (b).c) ∧ wx.cell? ⟨w.heap.size + 1, 4, none⟩ = some (Value.int .i64 (b).d) ∧ wx.cell? ⟨w.heap.size, 0, none⟩ = some (Value.int .u8 (a).op) ∧ wx.cell? ⟨w.heap.size, 1, none⟩ = some (Value.int .i64 (a).a) ∧ wx.cell? ⟨w.heap.size, 2, none⟩ = some (Value.int .i64 (a).b) ∧ wx.cell? ⟨w.heap.size, 3, none⟩ = some (Value.int .i64 (a).c) ∧ wx.cell? ⟨w.heap.size, 4, none⟩ = some (Value.int .i64 (a).d) ∧ Sx w [(b1, 38, #[.int .u8 (y).op, .int .i64 (y).a, .int .i64 (y).b, .int .i64 (y).c, .int .i64 (y).d]), (w.heap.size + 1, 38, #[.int .u8 (b).op, .int .i64 (b).a, .int .i64 (b).b, .int .i64 (b).c, .int .i64 (b).d]), (w.heap.size, 38, #[.int .u8 (a).op, .int .i64 (a).a, .int .i64 (a).b, .int .i64 (a).c, .int .i64 (a).d])] [] wx) from fun wx h => by
    have c := h.cellsL
    simp only [CellsL, CellsF, Nat.zero_add, Nat.reduceAdd, and_true, true_and] at c
    simp [c, h])
  have HKO := Lib.hid (fun wx (h : wx.cell? ⟨b1, 0, none⟩ = some (Value.int .u8 (y).op) ∧ wx.cell? ⟨b1, 1, none⟩ = some (Value.int .i64 (y).a) ∧ wx.cell? ⟨b1, 2, none⟩ = some (Value.int .i64 (y).b) ∧ wx.cell? ⟨b1, 3, none⟩ = some (Value.int .i64 (y).c) ∧ wx.cell? ⟨b1, 4, none⟩ = some (Value.int .i64 (y).d) ∧ wx.cell? ⟨w.heap.size + 1, 0, none⟩ = some (Value.int .u8 (b).op) ∧ wx.cell? ⟨w.heap.size + 1, 1, none⟩ = some (Value.int .i64 (b).a) ∧ wx.cell? ⟨w.heap.size + 1, 2, none⟩ = some (Value.int .i64 (b).b) ∧ wx.cell? ⟨w.heap.size + 1, 3, none⟩ = some (Value.int .i64 (b).c) ∧ wx.cell? ⟨w.heap.size + 1, 4, none⟩ = some (Value.int .i64 (b).d) ∧ wx.cell? ⟨w.heap.size, 0, none⟩ = some (Value.int .u8 (a).op) ∧ wx.cell? ⟨w.heap.size, 1, none⟩ = some (Value.int .i64 (a).a) ∧ wx.cell? ⟨w.heap.size, 2, none⟩ = some (Value.int .i64 (a).b) ∧ wx.cell? ⟨w.heap.size, 3, none⟩ = some (Value.int .i64 (a).c) ∧ wx.cell? ⟨w.heap.size, 4, none⟩ = some (Value.int .i64 (a).d) ∧ Sx w [(b1, 38, #[.int .u8 (y).op, .int .i64 (y).a, .int .i64 (y).b, .int .i64 (y).c, .int .i64 (y).d]), (w.heap.size + 1, 38, #[.int .u8 (b).op, .int .i64 (b).a, .int .i64 (b).b, .int .i64 (b).c, .int .i64 (b).d]), (w.heap.size, 38, #[.int .u8 (a).op, .int .i64 (a).a, .int .i64 (a).b, .int .i64 (a).c, .int .i64 (a).d])] [] wx) => (show Sx w [(b1, 38, #[.int .u8 (y).op, .int .i64 (y).a, .int .i64 (y).b, .int .i64 (y).c, .int .i64 (y).d]), (w.heap.size + 1, 38, #[.int .u8 (b).op, .int .i64 (b).a, .int .i64 (b).b, .int .i64 (b).c, .int .i64 (b).d]), (w.heap.size, 38, #[.int .u8 (a).op, .int .i64 (a).a, .int .i64 (a).b, .int .i64 (a).c, .int .i64 (a).d])] [] wx from h.2.2.2.2.2.2.2.2.2.2.2.2.2.2.2))
  have hH := HK2.out _ hS
  cases q
  · simp only [Bool.false_and] at HC1 HC2
    clear HK2 HKO hH
    first
      | go_region_with (first | (go_at_call 30; apply calls_abs (w0 := w); (repeat (first | with_reducible apply Sx.alloc | with_reducible apply Sx.drew | with_reducible apply Sx.drewN | with_reducible exact hS)); intro wx hS2; clear hS; have hS := hS2; clear hS2; (try simp only [World.size_alloc, World.size_drew] at hS); with_reducible refine (HV.out _).mono ?_; rintro e wn ⟨rfl, hB⟩; replace hS := Sx.call hB hS; clear hB; clear hc; have hc := hS.cellsL; simp only [CellsL, CellsF, Nat.zero_add, Nat.reduceAdd, and_true, true_and] at hc) | (go_at_call 38; apply calls_abs (w0 := w); (repeat (first | with_reducible apply Sx.alloc | with_reducible apply Sx.drew | with_reducible apply Sx.drewN | with_reducible exact hS)); intro wx hS2; clear hS; have hS := hS2; clear hS2; (try simp only [World.size_alloc, World.size_drew] at hS); with_reducible refine (HC2.out _).mono ?_; rintro e wn ⟨rfl, hB⟩; replace hS := Sx.call hB hS; clear hB; clear hc; have hc := hS.cellsL; simp only [CellsL, CellsF, Nat.zero_add, Nat.reduceAdd, and_true, true_and] at hc))
      | fail
    all_goals go_wp2_with fail
    all_goals go_ret
    all_goals exact ⟨rfl, hS.below⟩
  clear hc
  simp only [Bool.true_and] at HC1 HC2
  cases r1 <;> cases r2
  all_goals
    first
      | go_region_held3 (fun wx => wx.cell? ⟨b1, 0, none⟩ = some (Value.int .u8 (y).op) ∧ wx.cell? ⟨b1, 1, none⟩ = some (Value.int .i64 (y).a) ∧ wx.cell? ⟨b1, 2, none⟩ = some (Value.int .i64 (y).b) ∧ wx.cell? ⟨b1, 3, none⟩ = some (Value.int .i64 (y).c) ∧ wx.cell? ⟨b1, 4, none⟩ = some (Value.int .i64 (y).d) ∧ wx.cell? ⟨w.heap.size + 1, 0, none⟩ = some (Value.int .u8 (b).op) ∧ wx.cell? ⟨w.heap.size + 1, 1, none⟩ = some (Value.int .i64 (b).a) ∧ wx.cell? ⟨w.heap.size + 1, 2, none⟩ = some (Value.int .i64 (b).b) ∧ wx.cell? ⟨w.heap.size + 1, 3, none⟩ = some (Value.int .i64 (b).c) ∧ wx.cell? ⟨w.heap.size + 1, 4, none⟩ = some (Value.int .i64 (b).d) ∧ wx.cell? ⟨w.heap.size, 0, none⟩ = some (Value.int .u8 (a).op) ∧ wx.cell? ⟨w.heap.size, 1, none⟩ = some (Value.int .i64 (a).a) ∧ wx.cell? ⟨w.heap.size, 2, none⟩ = some (Value.int .i64 (a).b) ∧ wx.cell? ⟨w.heap.size, 3, none⟩ = some (Value.int .i64 (a).c) ∧ wx.cell? ⟨w.heap.size, 4, none⟩ = some (Value.int .i64 (a).d) ∧ Sx w [(b1, 38, #[.int .u8 (y).op, .int .i64 (y).a, .int .i64 (y).b, .int .i64 (y).c, .int .i64 (y).d]), (w.heap.size + 1, 38, #[.int .u8 (b).op, .int .i64 (b).a, .int .i64 (b).b, .int .i64 (b).c, .int .i64 (b).d]), (w.heap.size, 38, #[.int .u8 (a).op, .int .i64 (a).a, .int .i64 (a).b, .int .i64 (a).c, .int .i64 (a).d])] [] wx) (first | exact HK2.out _ (Sx.drew (by assumption)) | exact HK2.out _ (by assumption)) (first | (go_at_call 30; have hS9 : Sx w [(b1, 38, #[.int .u8 (y).op, .int .i64 (y).a, .int .i64 (y).b, .int .i64 (y).c, .int .i64 (y).d]), (w.heap.size + 1, 38, #[.int .u8 (b).op, .int .i64 (b).a, .int .i64 (b).b, .int .i64 (b).c, .int .i64 (b).d]), (w.heap.size, 38, #[.int .u8 (a).op, .int .i64 (a).a, .int .i64 (a).b, .int .i64 (a).c, .int .i64 (a).d])] [] _ := (HKO.out _ (by assumption)); with_reducible refine (HV.out _).mono ?_; rintro e wn ⟨rfl, hB⟩; have hS8 := Sx.call hB hS9; clear hB) | (go_at_call 38; have hS9 : Sx w [(b1, 38, #[.int .u8 (y).op, .int .i64 (y).a, .int .i64 (y).b, .int .i64 (y).c, .int .i64 (y).d]), (w.heap.size + 1, 38, #[.int .u8 (b).op, .int .i64 (b).a, .int .i64 (b).b, .int .i64 (b).c, .int .i64 (b).d]), (w.heap.size, 38, #[.int .u8 (a).op, .int .i64 (a).a, .int .i64 (a).b, .int .i64 (a).c, .int .i64 (a).d])] [] _ := (HKO.out _ (by assumption)); with_reducible refine (HC1.out _).mono ?_; rintro e wn ⟨rfl, hB⟩; have hS8 := Sx.call hB hS9; clear hB) | (go_at_call 38; have hS9 : Sx w [(b1, 38, #[.int .u8 (y).op, .int .i64 (y).a, .int .i64 (y).b, .int .i64 (y).c, .int .i64 (y).d]), (w.heap.size + 1, 38, #[.int .u8 (b).op, .int .i64 (b).a, .int .i64 (b).b, .int .i64 (b).c, .int .i64 (b).d]), (w.heap.size, 38, #[.int .u8 (a).op, .int .i64 (a).a, .int .i64 (a).b, .int .i64 (a).c, .int .i64 (a).d])] [] _ := (HKO.out _ (by assumption)); with_reducible refine (HC2.out _).mono ?_; rintro e wn ⟨rfl, hB⟩; have hS8 := Sx.call hB hS9; clear hB) | (go_at_call 39; have hS9 : Sx w [(b1, 38, #[.int .u8 (y).op, .int .i64 (y).a, .int .i64 (y).b, .int .i64 (y).c, .int .i64 (y).d]), (w.heap.size + 1, 38, #[.int .u8 (b).op, .int .i64 (b).a, .int .i64 (b).b, .int .i64 (b).c, .int .i64 (b).d]), (w.heap.size, 38, #[.int .u8 (a).op, .int .i64 (a).a, .int .i64 (a).b, .int .i64 (a).c, .int .i64 (a).d])] [] _ := (HKO.out _ (by assumption)); with_reducible refine (HR1.out _).mono ?_; rintro e wn ⟨rfl, hB⟩; have hS8 := Sx.call hB hS9; clear hB) | (go_at_call 39; have hS9 : Sx w [(b1, 38, #[.int .u8 (y).op, .int .i64 (y).a, .int .i64 (y).b, .int .i64 (y).c, .int .i64 (y).d]), (w.heap.size + 1, 38, #[.int .u8 (b).op, .int .i64 (b).a, .int .i64 (b).b, .int .i64 (b).c, .int .i64 (b).d]), (w.heap.size, 38, #[.int .u8 (a).op, .int .i64 (a).a, .int .i64 (a).b, .int .i64 (a).c, .int .i64 (a).d])] [] _ := (HKO.out _ (by assumption)); with_reducible refine (HR2.out _).mono ?_; rintro e wn ⟨rfl, hB⟩; have hS8 := Sx.call hB hS9; clear hB))
      | fail
    all_goals go_wp2_with fail
    all_goals go_ret
    all_goals exact ⟨rfl, hS8.below⟩
theorem peepholeCancels_walk (o0 a0 b0 c0 e0 o1 a1 b1 c1 e1 : Int) (g0o : U8 o0) (g0a : I64 a0) (g0b : I64 b0) (g0c : I64 c0) (g0e : I64 e0) (g1o : U8 o1) (g1a : I64 a1) (g1b : I64 b1) (g1c : I64 c1) (g1e : I64 e1) (w : World) : Calls Try.prog 12 #[.agg #[.int .u8 o0, .int .i64 a0, .int .i64 b0, .int .i64 c0, .int .i64 e0], .agg #[.int .u8 o1, .int .i64 a1, .int .i64 b1, .int .i64 c1, .int .i64 e1]] w fun e w' => e = .returned (.bool true) ∧ Below w.heap.size w w' :=
  peepholeCancels_any ⟨o0, a0, b0, c0, e0⟩ ⟨o1, a1, b1, c1, e1⟩ g0o.1 w


end Go.Proofs.Yteonkfdmkgjpaaa
