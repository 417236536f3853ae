/- Contracts of layer 32: removable, Cancels. -/
import Derived.Test.YteonkfdmkgjpaaaImgL4
import Derived.Test.YteonkfdmkgjpaaaPeePure2
import Derived.Deep.RegionHeld3
import Derived.Deep.DeepCutAuto
import Derived.BigQuiet
import Derived.Deep.QuietTactic
import Derived.BigRegion
import Derived.Deep.CutBlock
namespace Go.Proofs.Yteonkfdmkgjpaaa
open Go.RowKit
set_option linter.unusedVariables false
set_option linter.unusedSimpArgs false

theorem ins_ne {x y : Ins} (h : x ≠ y) : ((x.op == y.op) = false) ∨ ((x.op == y.op) = true ∧ (x.a == y.a) = false) ∨ ((x.op == y.op) = true ∧ (x.a == y.a) = true ∧ (x.b == y.b) = false) ∨ ((x.op == y.op) = true ∧ (x.a == y.a) = true ∧ (x.b == y.b) = true ∧ (x.c == y.c) = false) ∨ ((x.op == y.op) = true ∧ (x.a == y.a) = true ∧ (x.b == y.b) = true ∧ (x.c == y.c) = true ∧ (x.d == y.d) = false) := by
  cases h0 : (x.op == y.op)
  · exact .inl rfl
  cases h1 : (x.a == y.a)
  · exact .inr (.inl ⟨rfl, rfl⟩)
  cases h2 : (x.b == y.b)
  · exact .inr (.inr (.inl ⟨rfl, rfl, rfl⟩))
  cases h3 : (x.c == y.c)
  · exact .inr (.inr (.inr (.inl ⟨rfl, rfl, rfl, rfl⟩)))
  cases h4 : (x.d == y.d)
  · exact .inr (.inr (.inr (.inr ⟨rfl, rfl, rfl, rfl, rfl⟩)))
  · exfalso
    apply h
    cases x; cases y
    simp_all
theorem removable_any (op : Int) (w : World) : Calls Try.prog 60 #[.int .u8 op] w fun e w' => e = .returned (.bool (Pee.rmv op)) ∧ w = w' := by
  cases hJ : Isa.isJ op <;> cases hL : Isa.isL op
  all_goals
    have HJ := Lib.hid (isJ_ex op _ hJ)
    have HL := Lib.hid (isL_ex op _ hL)
    go_enter Try.func60, Try.ntmps60
    go_wp2_with (first | (go_at_call 28; (first | (with_reducible refine (HJ.out _).mono ?_)); rintro e wn ⟨rfl, rfl⟩) | (go_at_call 29; (first | (with_reducible refine (HL.out _).mono ?_)); rintro e wn ⟨rfl, rfl⟩))
    all_goals go_ret
    all_goals exact ⟨by simp [Pee.rmv, *], rfl⟩
theorem removable_ex (op : Int) (b : Bool) (h : Pee.rmv op = b) (w : World) : Calls Try.prog 60 #[.int .u8 op] w fun e w' => e = .returned (.bool b) ∧ w = w' := by
  subst h
  exact removable_any op w

set_option maxHeartbeats 8000000 in
theorem pcancels_any (a b : Ins) (w : World) : Calls Try.prog 38 #[.agg #[.int .u8 (a).op, .int .i64 (a).a, .int .i64 (a).b, .int .i64 (a).c, .int .i64 (a).d], .agg #[.int .u8 (b).op, .int .i64 (b).a, .int .i64 (b).b, .int .i64 (b).c, .int .i64 (b).d]] w fun e w' => e = .returned (.bool (Pee.cancels a b)) ∧ Below w.heap.size w w' := by
  have HV := Lib.hid (vl_ex a _ rfl)
  have HR := Lib.hid (removable_ex a.op _ rfl)
  have HI := Lib.hid (inverse_ex a _ rfl)
  have HP := Lib.hid (show Pee.cancels a b = (Img.vl a && Pee.rmv a.op && decide (Img.inv a = b)) from rfl)
  have HK := Lib.hid (show ∀ wx, Sx w [(w.heap.size + 1, 38, #[.int .u8 (b).op, .int .i64 (b).a, .int .i64 (b).b, .int .i64 (b).c, .int .i64 (b).d]), (w.heap.size, 38, #[.int .u8 (a).op, .int .i64 (a).a, .int .i64 (a).b, .int .i64 (a).c, .int .i64 (a).d])] [] wx → (wx.cell? ⟨w.heap.size + 1, 0, none⟩ = some (Value.int .u8 (b).op) ∧ wx.cell? ⟨w.heap.size + 1, 1, none⟩ = some (Value.int .i64 (b).a) ∧ wx.cell? ⟨w.heap.size + 1, 2, none⟩ = some (Value.int .i64 (b).b) ∧ wx.cell? ⟨w.heap.size + 1, 3, none⟩ = some (Value.int .i64 (b).c) ∧ wx.cell? ⟨w.heap.size + 1, 4, none⟩ = some (Value.int .i64 (b).d) ∧ wx.cell? ⟨w.heap.size, 0, none⟩ = some (Value.int .u8 (a).op) ∧ wx.cell? ⟨w.heap.size, 1, none⟩ = some (Value.int .i64 (a).a) ∧ wx.cell? ⟨w.heap.size, 2, none⟩ = some (Value.int .i64 (a).b) ∧ wx.cell? ⟨w.heap.size, 3, none⟩ = some (Value.int .i64 (a).c) ∧ wx.cell? ⟨w.heap.size, 4, none⟩ = some (Value.int .i64 (a).d) ∧ Sx w [(w.heap.size + 1, 38, #[.int .u8 (b).op, .int .i64 (b).a, .int .i64 (b).b, .int .i64 (b).c, .int .i64 (b).d]), (w.heap.size, 38, #[.int .u8 (a).op, .int .i64 (a).a, .int .i64 (a).b, .int .i64 (a).c, .int .i64 (a).d])] [] wx) from fun wx h => by
    have c := h.cellsL
    simp only [CellsL, CellsF, Nat.zero_add, Nat.reduceAdd, and_true, true_and] at c
    simp [c, h])
  have HKO := Lib.hid (fun wx (h : wx.cell? ⟨w.heap.size + 1, 0, none⟩ = some (Value.int .u8 (b).op) ∧ wx.cell? ⟨w.heap.size + 1, 1, none⟩ = some (Value.int .i64 (b).a) ∧ wx.cell? ⟨w.heap.size + 1, 2, none⟩ = some (Value.int .i64 (b).b) ∧ wx.cell? ⟨w.heap.size + 1, 3, none⟩ = some (Value.int .i64 (b).c) ∧ wx.cell? ⟨w.heap.size + 1, 4, none⟩ = some (Value.int .i64 (b).d) ∧ wx.cell? ⟨w.heap.size, 0, none⟩ = some (Value.int .u8 (a).op) ∧ wx.cell? ⟨w.heap.size, 1, none⟩ = some (Value.int .i64 (a).a) ∧ wx.cell? ⟨w.heap.size, 2, none⟩ = some (Value.int .i64 (a).b) ∧ wx.cell? ⟨w.heap.size, 3, none⟩ = some (Value.int .i64 (a).c) ∧ wx.cell? ⟨w.heap.size, 4, none⟩ = some (Value.int .i64 (a).d) ∧ Sx w [(w.heap.size + 1, 38, #[.int .u8 (b).op, .int .i64 (b).a, .int .i64 (b).b, .int .i64 (b).c, .int .i64 (b).d]), (w.heap.size, 38, #[.int .u8 (a).op, .int .i64 (a).a, .int .i64 (a).b, .int .i64 (a).c, .int .i64 (a).d])] [] wx) => (show Sx w [(w.heap.size + 1, 38, #[.int .u8 (b).op, .int .i64 (b).a, .int .i64 (b).b, .int .i64 (b).c, .int .i64 (b).d]), (w.heap.size, 38, #[.int .u8 (a).op, .int .i64 (a).a, .int .i64 (a).b, .int .i64 (a).c, .int .i64 (a).d])] [] wx from h.2.2.2.2.2.2.2.2.2.2))
  have hS0 : Sx w [] [] w := Sx.start (F := []) w (fun _ h => by cases h)
  have hS1 := (hS0.alloc #[.int .u8 (a).op, .int .i64 (a).a, .int .i64 (a).b, .int .i64 (a).c, .int .i64 (a).d] 38).alloc #[.int .u8 (b).op, .int .i64 (b).a, .int .i64 (b).b, .int .i64 (b).c, .int .i64 (b).d] 38
  rw [World.size_alloc] at hS1
  go_enter Try.func38, Try.ntmps38
  go_upto_region 1 with fail
  have hS := hS0
  have hc : True := trivial
  apply wp_abs (w0 := w)
  · (repeat (first | with_reducible apply Sx.alloc | with_reducible apply Sx.drew | with_reducible apply Sx.drewN | with_reducible exact hS))
  intro wx hS2; clear hS; have hS := hS2; clear hS2; (try simp only [World.size_alloc, World.size_drew] at hS)
  clear hc; have hc := hS.cellsL; simp only [CellsL, CellsF, Nat.zero_add, Nat.reduceAdd, and_true, true_and] at hc
  clear hS1 hS0
  have hH := HK.out _ hS
  cases hv : Img.vl a
  · rw [hv] at HV
    first
      | go_region_with (first | (go_at_call 30; apply calls_abs (w0 := w); (repeat (first | with_reducible apply Sx.alloc | with_reducible apply Sx.drew | with_reducible apply Sx.drewN | with_reducible exact hS)); intro wx hS2; clear hS; have hS := hS2; clear hS2; (try simp only [World.size_alloc, World.size_drew] at hS); refine (HV.out _).mono ?_; rintro e wn ⟨rfl, hB⟩; replace hS := Sx.call hB hS; clear hB; clear hc; have hc := hS.cellsL; simp only [CellsL, CellsF, Nat.zero_add, Nat.reduceAdd, and_true, true_and] at hc))
      | fail
    all_goals go_wp2_with fail
    all_goals go_ret
    all_goals exact ⟨by rw [HP.out, hv]; rfl, hS.below⟩
  cases hr : Pee.rmv a.op
  · rw [hv] at HV
    rw [hr] at HR
    first
      | go_region_with (first | (go_at_call 30; apply calls_abs (w0 := w); (repeat (first | with_reducible apply Sx.alloc | with_reducible apply Sx.drew | with_reducible apply Sx.drewN | with_reducible exact hS)); intro wx hS2; clear hS; have hS := hS2; clear hS2; (try simp only [World.size_alloc, World.size_drew] at hS); refine (HV.out _).mono ?_; rintro e wn ⟨rfl, hB⟩; replace hS := Sx.call hB hS; clear hB; clear hc; have hc := hS.cellsL; simp only [CellsL, CellsF, Nat.zero_add, Nat.reduceAdd, and_true, true_and] at hc) | (go_at_call 60; (first | (with_reducible refine (HR.out _).mono ?_)); rintro e wn ⟨rfl, rfl⟩))
      | fail
    all_goals go_wp2_with fail
    all_goals go_ret
    all_goals exact ⟨by rw [HP.out, hv, hr]; rfl, hS.below⟩
  · rw [hv] at HV
    rw [hr] at HR
    have HP2 : Hid (Pee.cancels a b = decide (Img.inv a = b)) := Lib.hid (by rw [HP.out, hv, hr]; rfl)
    clear HP hv hr hc
    generalize Img.inv a = y at *
    by_cases hyb : b = y
    · subst hyb
      have HP3 := Lib.hid (show Pee.cancels a b = true by rw [HP2.out]; simp)
      clear HP2
      go_region_held3 (fun wx => wx.cell? ⟨w.heap.size + 1, 0, none⟩ = some (Value.int .u8 (b).op) ∧ wx.cell? ⟨w.heap.size + 1, 1, none⟩ = some (Value.int .i64 (b).a) ∧ wx.cell? ⟨w.heap.size + 1, 2, none⟩ = some (Value.int .i64 (b).b) ∧ wx.cell? ⟨w.heap.size + 1, 3, none⟩ = some (Value.int .i64 (b).c) ∧ wx.cell? ⟨w.heap.size + 1, 4, none⟩ = some (Value.int .i64 (b).d) ∧ wx.cell? ⟨w.heap.size, 0, none⟩ = some (Value.int .u8 (a).op) ∧ wx.cell? ⟨w.heap.size, 1, none⟩ = some (Value.int .i64 (a).a) ∧ wx.cell? ⟨w.heap.size, 2, none⟩ = some (Value.int .i64 (a).b) ∧ wx.cell? ⟨w.heap.size, 3, none⟩ = some (Value.int .i64 (a).c) ∧ wx.cell? ⟨w.heap.size, 4, none⟩ = some (Value.int .i64 (a).d) ∧ Sx w [(w.heap.size + 1, 38, #[.int .u8 (b).op, .int .i64 (b).a, .int .i64 (b).b, .int .i64 (b).c, .int .i64 (b).d]), (w.heap.size, 38, #[.int .u8 (a).op, .int .i64 (a).a, .int .i64 (a).b, .int .i64 (a).c, .int .i64 (a).d])] [] wx) (first | exact HK.out _ (Sx.drew (by assumption)) | exact HK.out _ (by assumption)) (first | (go_at_call 30; have hS9 : Sx w [(w.heap.size + 1, 38, #[.int .u8 (b).op, .int .i64 (b).a, .int .i64 (b).b, .int .i64 (b).c, .int .i64 (b).d]), (w.heap.size, 38, #[.int .u8 (a).op, .int .i64 (a).a, .int .i64 (a).b, .int .i64 (a).c, .int .i64 (a).d])] [] _ := (HKO.out _ (by assumption)); with_reducible refine (HV.out _).mono ?_; rintro e wn ⟨rfl, hB⟩; have hS8 := Sx.call hB hS9; clear hB) | (go_at_call 60; have hS8 : Sx w [(w.heap.size + 1, 38, #[.int .u8 (b).op, .int .i64 (b).a, .int .i64 (b).b, .int .i64 (b).c, .int .i64 (b).d]), (w.heap.size, 38, #[.int .u8 (a).op, .int .i64 (a).a, .int .i64 (a).b, .int .i64 (a).c, .int .i64 (a).d])] [] _ := (HKO.out _ (by assumption)); with_reducible refine (HR.out _).mono ?_; rintro e wn ⟨rfl, rfl⟩) | (go_at_call 32; have hS9 : Sx w [(w.heap.size + 1, 38, #[.int .u8 (b).op, .int .i64 (b).a, .int .i64 (b).b, .int .i64 (b).c, .int .i64 (b).d]), (w.heap.size, 38, #[.int .u8 (a).op, .int .i64 (a).a, .int .i64 (a).b, .int .i64 (a).c, .int .i64 (a).d])] [] _ := (HKO.out _ (by assumption)); with_reducible refine (HI.out _).mono ?_; rintro e wn ⟨rfl, hB⟩; have hS8 := Sx.call hB hS9; clear hB))
      all_goals go_wp2_with fail
      all_goals go_ret
      all_goals exact ⟨by rw [HP3.out]; rfl, hS8.below⟩
    · have HP3 := Lib.hid (show Pee.cancels a b = false by rw [HP2.out]; exact decide_eq_false (fun e => hyb e.symm))
      have hne := ins_ne (fun e => hyb e.symm)
      clear HP2 hyb
      rcases hne with e0 | ⟨e0, e1⟩ | ⟨e0, e1, e2⟩ | ⟨e0, e1, e2, e3⟩ | ⟨e0, e1, e2, e3, e4⟩
      all_goals
        go_region_held3 (fun wx => wx.cell? ⟨w.heap.size + 1, 0, none⟩ = some (Value.int .u8 (b).op) ∧ wx.cell? ⟨w.heap.size + 1, 1, none⟩ = some (Value.int .i64 (b).a) ∧ wx.cell? ⟨w.heap.size + 1, 2, none⟩ = some (Value.int .i64 (b).b) ∧ wx.cell? ⟨w.heap.size + 1, 3, none⟩ = some (Value.int .i64 (b).c) ∧ wx.cell? ⟨w.heap.size + 1, 4, none⟩ = some (Value.int .i64 (b).d) ∧ wx.cell? ⟨w.heap.size, 0, none⟩ = some (Value.int .u8 (a).op) ∧ wx.cell? ⟨w.heap.size, 1, none⟩ = some (Value.int .i64 (a).a) ∧ wx.cell? ⟨w.heap.size, 2, none⟩ = some (Value.int .i64 (a).b) ∧ wx.cell? ⟨w.heap.size, 3, none⟩ = some (Value.int .i64 (a).c) ∧ wx.cell? ⟨w.heap.size, 4, none⟩ = some (Value.int .i64 (a).d) ∧ Sx w [(w.heap.size + 1, 38, #[.int .u8 (b).op, .int .i64 (b).a, .int .i64 (b).b, .int .i64 (b).c, .int .i64 (b).d]), (w.heap.size, 38, #[.int .u8 (a).op, .int .i64 (a).a, .int .i64 (a).b, .int .i64 (a).c, .int .i64 (a).d])] [] wx) (first | exact HK.out _ (Sx.drew (by assumption)) | exact HK.out _ (by assumption)) (first | (go_at_call 30; have hS9 : Sx w [(w.heap.size + 1, 38, #[.int .u8 (b).op, .int .i64 (b).a, .int .i64 (b).b, .int .i64 (b).c, .int .i64 (b).d]), (w.heap.size, 38, #[.int .u8 (a).op, .int .i64 (a).a, .int .i64 (a).b, .int .i64 (a).c, .int .i64 (a).d])] [] _ := (HKO.out _ (by assumption)); with_reducible refine (HV.out _).mono ?_; rintro e wn ⟨rfl, hB⟩; have hS8 := Sx.call hB hS9; clear hB) | (go_at_call 60; have hS8 : Sx w [(w.heap.size + 1, 38, #[.int .u8 (b).op, .int .i64 (b).a, .int .i64 (b).b, .int .i64 (b).c, .int .i64 (b).d]), (w.heap.size, 38, #[.int .u8 (a).op, .int .i64 (a).a, .int .i64 (a).b, .int .i64 (a).c, .int .i64 (a).d])] [] _ := (HKO.out _ (by assumption)); with_reducible refine (HR.out _).mono ?_; rintro e wn ⟨rfl, rfl⟩) | (go_at_call 32; have hS9 : Sx w [(w.heap.size + 1, 38, #[.int .u8 (b).op, .int .i64 (b).a, .int .i64 (b).b, .int .i64 (b).c, .int .i64 (b).d]), (w.heap.size, 38, #[.int .u8 (a).op, .int .i64 (a).a, .int .i64 (a).b, .int .i64 (a).c, .int .i64 (a).d])] [] _ := (HKO.out _ (by assumption)); with_reducible refine (HI.out _).mono ?_; rintro e wn ⟨rfl, hB⟩; have hS8 := Sx.call hB hS9; clear hB))
        all_goals go_wp2_with fail
        all_goals go_ret
        all_goals exact ⟨by rw [HP3.out]; rfl, hS8.below⟩

end Go.Proofs.Yteonkfdmkgjpaaa
