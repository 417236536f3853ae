/- The walks of the laws of layer 21: each returns true. -/
import Derived.Test.YtiimoliolbgjnaaIsaA
import Derived.Test.YtiimoliolbgjnaaLaw
import Derived.Deep.RegionHeld3
import Derived.BigQuiet
import Derived.Deep.QuietTactic
namespace Go.Proofs.Ytiimoliolbgjnaa
open Go.RowKit
set_option linter.unusedVariables false
set_option linter.unusedSimpArgs false

/-- one box of the caller's own, and what is below the start -/
def One (w : World) (g1 : Nat) (cs1 : Array Value) (wx : World) : Prop := Below w.heap.size w wx ∧ Blk wx g1 23 cs1
theorem One.cells {w wx : World} {g1 : Nat} {a b c d e : Value} (h : One w g1 #[a, b, c, d, e] wx) :
    wx.cell? ⟨g1, 0, none⟩ = some a ∧ wx.cell? ⟨g1, 1, none⟩ = some b ∧ wx.cell? ⟨g1, 2, none⟩ = some c ∧ wx.cell? ⟨g1, 3, none⟩ = some d ∧ wx.cell? ⟨g1, 4, none⟩ = some e ∧ One w g1 #[a, b, c, d, e] wx :=
  ⟨h.2.cell 0, h.2.cell 1, h.2.cell 2, h.2.cell 3, h.2.cell 4, h⟩
theorem One.held {w wx : World} {g1 : Nat} {a b c d e : Value} (h :
    wx.cell? ⟨g1, 0, none⟩ = some a ∧ wx.cell? ⟨g1, 1, none⟩ = some b ∧ wx.cell? ⟨g1, 2, none⟩ = some c ∧ wx.cell? ⟨g1, 3, none⟩ = some d ∧ wx.cell? ⟨g1, 4, none⟩ = some e ∧ One w g1 #[a, b, c, d, e] wx) : One w g1 #[a, b, c, d, e] wx := h.2.2.2.2.2
theorem One.drew {w W : World} {g1 : Nat} {cs1 : Array Value} (h : One w g1 cs1 W) : One w g1 cs1 W.drew := ⟨h.1.drew, h.2.drew⟩
theorem One.call {w W w' : World} {g1 : Nat} {cs1 : Array Value} (hB : Below W.heap.size W w') (h : One w g1 cs1 W) : One w g1 cs1 w' := step_box hB h

set_option maxHeartbeats 8000000 in
theorem isaMoves_walk (op a b c d x y : Int) (ho : U8 op) (ha : I64 a) (hb : I64 b) (hc : I64 c) (hd : I64 d) (hx : I64 x) (hy : I64 y) (w : World) :
    Calls Try.prog 10 #[.agg #[.int .u8 op, .int .i64 a, .int .i64 b, .int .i64 c, .int .i64 d], .int .i64 x, .int .i64 y] w fun e w' => e = .returned (.bool true) ∧ Below w.heap.size w w' := by
  obtain ht | ht | ht := Isa.tgt_cases op
  · have u1 : ∀ w, Calls Try.prog 22 #[.agg #[.int .u8 op, .int .i64 a, .int .i64 b, .int .i64 c, .int .i64 d]] w fun e w' => e = .returned (.tuple #[.int .i64 0, .bool false]) ∧ Below w.heap.size w w' := fun w => by
      have h := target2_any op a b c d w
      rw [ht, show Isa.tval op a b = 0 from by simp [Isa.tval, ht]] at h
      exact h
    have u2 : ∀ w, Calls Try.prog 23 #[.agg #[.int .u8 op, .int .i64 a, .int .i64 b, .int .i64 c, .int .i64 d], .int .i64 x] w fun e w' => e = .returned (.agg #[.int .u8 op, .int .i64 a, .int .i64 b, .int .i64 c, .int .i64 d]) ∧ Below w.heap.size w w' := fun w => by
      have h := retarget_any op a b c d x w
      rw [show Isa.reA op a x = a from by simp [Isa.reA, ht], show Isa.reB op b x = b from by simp [Isa.reB, ht]] at h
      exact h
    have U1 := Lib.hid u1
    have U2 := Lib.hid u2
    clear u1 u2 ht
    go_enter Try.func10, Try.ntmps10
    have k0 := box_new w 23 #[.int .u8 op, .int .i64 a, .int .i64 b, .int .i64 c, .int .i64 d]
    go_upto_region 5 with (first | (go_at_call 11; refine (isaAwake_any _).mono ?_; rintro e wn ⟨rfl, hB⟩; have hS := step_box hB (by assumption); obtain ⟨c0, c1, c2, c3, c4, -⟩ := Blk.cells5 hS.2) | (go_at_call 22; refine (U1.out _).mono ?_; rintro e wn ⟨rfl, hB⟩; have hS := step_box hB (by assumption); obtain ⟨c0, c1, c2, c3, c4, -⟩ := Blk.cells5 hS.2))
    go_region_held3 (fun wx => wx.cell? ⟨w.heap.size, 0, none⟩ = some (.int .u8 op) ∧ wx.cell? ⟨w.heap.size, 1, none⟩ = some (.int .i64 a) ∧ wx.cell? ⟨w.heap.size, 2, none⟩ = some (.int .i64 b) ∧ wx.cell? ⟨w.heap.size, 3, none⟩ = some (.int .i64 c) ∧ wx.cell? ⟨w.heap.size, 4, none⟩ = some (.int .i64 d) ∧ One w w.heap.size #[.int .u8 op, .int .i64 a, .int .i64 b, .int .i64 c, .int .i64 d] wx) ((first | exact One.cells (One.drew (show One w w.heap.size #[.int .u8 op, .int .i64 a, .int .i64 b, .int .i64 c, .int .i64 d] _ from by assumption)) | exact One.cells (One.drew (show One w w.heap.size #[.int .u8 op, .int .i64 a, .int .i64 b, .int .i64 c, .int .i64 d] _ from (by assumption : _ ∧ _))) | exact One.cells (by assumption))) (first | (go_at_call 23; refine (U2.out _).mono ?_; rintro e wn ⟨rfl, hB⟩; have hO := One.call hB (One.held (by assumption))))
    all_goals go_wp2_with fail
    all_goals go_ret
    all_goals exact ⟨by first | rfl | (simp; done), (show One w w.heap.size #[.int .u8 op, .int .i64 a, .int .i64 b, .int .i64 c, .int .i64 d] _ from by assumption).1⟩
  · have u1 : ∀ p q w, Calls Try.prog 22 #[.agg #[.int .u8 op, .int .i64 p, .int .i64 q, .int .i64 c, .int .i64 d]] w fun e w' => e = .returned (.tuple #[.int .i64 p, .bool true]) ∧ Below w.heap.size w w' := fun p q w => by
      have h := target2_any op p q c d w
      rw [ht, show Isa.tval op p q = p from by simp [Isa.tval, ht]] at h
      exact h
    have u2 : ∀ p q m w, Calls Try.prog 23 #[.agg #[.int .u8 op, .int .i64 p, .int .i64 q, .int .i64 c, .int .i64 d], .int .i64 m] w fun e w' => e = .returned (.agg #[.int .u8 op, .int .i64 m, .int .i64 q, .int .i64 c, .int .i64 d]) ∧ Below w.heap.size w w' := fun p q m w => by
      have h := retarget_any op p q c d m w
      rw [show Isa.reA op p m = m from by simp [Isa.reA, ht], show Isa.reB op q m = q from by simp [Isa.reB, ht]] at h
      exact h
    have U1 := Lib.hid u1
    have U2 := Lib.hid u2
    clear u1 u2 ht
    go_enter Try.func10, Try.ntmps10
    have k0 := box_new w 23 #[.int .u8 op, .int .i64 a, .int .i64 b, .int .i64 c, .int .i64 d]
    go_upto_region 7 with (first | (go_at_call 11; refine (isaAwake_any _).mono ?_; rintro e wn ⟨rfl, hB⟩; have hS := step_box hB (by assumption); obtain ⟨c0, c1, c2, c3, c4, -⟩ := Blk.cells5 hS.2) | (go_at_call 22; refine (U1.out _ _ _).mono ?_; rintro e wn ⟨rfl, hB⟩; have hS := step_box hB (by assumption); obtain ⟨c0, c1, c2, c3, c4, -⟩ := Blk.cells5 hS.2) | (go_at_call 23; refine (U2.out _ _ _ _).mono ?_; rintro e w2 ⟨rfl, hB⟩; have hT := step_box hB (by assumption); have hU : Two w w.heap.size #[.int .u8 op, .int .i64 a, .int .i64 b, .int .i64 c, .int .i64 d] w2.heap.size #[.int .u8 op, .int .i64 x, .int .i64 b, .int .i64 c, .int .i64 d] (w2.alloc (.cells #[.int .u8 op, .int .i64 x, .int .i64 b, .int .i64 c, .int .i64 d] 23)) := ⟨hT.1.alloc hT.1.size _, hT.2.alloc _, Blk.new _ _ _⟩; clear hT))
    generalize w2.alloc (.cells #[.int .u8 op, .int .i64 x, .int .i64 b, .int .i64 c, .int .i64 d] 23) = w3 at *
    generalize w2.heap.size = g at *
    obtain ⟨x0, x1, x2, x3, x4, x5, x6, x7, x8, x9, -⟩ := Two.cells hU
    go_upto_region 8 with (first | (go_at_call 22; refine (U1.out _ _ _).mono ?_; rintro e wn ⟨rfl, hB⟩; have hU := Two.call hB (by assumption); obtain ⟨x0, x1, x2, x3, x4, x5, x6, x7, x8, x9, -⟩ := Two.cells hU))
    go_region_held3 (fun wx => wx.cell? ⟨w.heap.size, 0, none⟩ = some (.int .u8 op) ∧ wx.cell? ⟨w.heap.size, 1, none⟩ = some (.int .i64 a) ∧ wx.cell? ⟨w.heap.size, 2, none⟩ = some (.int .i64 b) ∧ wx.cell? ⟨w.heap.size, 3, none⟩ = some (.int .i64 c) ∧ wx.cell? ⟨w.heap.size, 4, none⟩ = some (.int .i64 d) ∧ wx.cell? ⟨g, 0, none⟩ = some (.int .u8 op) ∧ wx.cell? ⟨g, 1, none⟩ = some (.int .i64 x) ∧ wx.cell? ⟨g, 2, none⟩ = some (.int .i64 b) ∧ wx.cell? ⟨g, 3, none⟩ = some (.int .i64 c) ∧ wx.cell? ⟨g, 4, none⟩ = some (.int .i64 d) ∧ Two w w.heap.size #[.int .u8 op, .int .i64 a, .int .i64 b, .int .i64 c, .int .i64 d] g #[.int .u8 op, .int .i64 x, .int .i64 b, .int .i64 c, .int .i64 d] wx) ((first | exact Two.cells (Two.drew (by assumption)) | exact Two.cells (by assumption))) (first | (go_at_call 23; refine (U2.out _ _ _ _).mono ?_; rintro e wn ⟨rfl, hB⟩; have hU := Two.call hB (Two.held (by assumption))))
    all_goals go_wp2_with fail
    all_goals go_ret
    all_goals exact ⟨by first | rfl | (simp; done), (show Two w w.heap.size #[.int .u8 op, .int .i64 a, .int .i64 b, .int .i64 c, .int .i64 d] g #[.int .u8 op, .int .i64 x, .int .i64 b, .int .i64 c, .int .i64 d] _ from by assumption).1⟩
  · have u1 : ∀ p q w, Calls Try.prog 22 #[.agg #[.int .u8 op, .int .i64 p, .int .i64 q, .int .i64 c, .int .i64 d]] w fun e w' => e = .returned (.tuple #[.int .i64 q, .bool true]) ∧ Below w.heap.size w w' := fun p q w => by
      have h := target2_any op p q c d w
      rw [ht, show Isa.tval op p q = q from by simp [Isa.tval, ht]] at h
      exact h
    have u2 : ∀ p q m w, Calls Try.prog 23 #[.agg #[.int .u8 op, .int .i64 p, .int .i64 q, .int .i64 c, .int .i64 d], .int .i64 m] w fun e w' => e = .returned (.agg #[.int .u8 op, .int .i64 p, .int .i64 m, .int .i64 c, .int .i64 d]) ∧ Below w.heap.size w w' := fun p q m w => by
      have h := retarget_any op p q c d m w
      rw [show Isa.reA op p m = p from by simp [Isa.reA, ht], show Isa.reB op q m = m from by simp [Isa.reB, ht]] at h
      exact h
    have U1 := Lib.hid u1
    have U2 := Lib.hid u2
    clear u1 u2 ht
    go_enter Try.func10, Try.ntmps10
    have k0 := box_new w 23 #[.int .u8 op, .int .i64 a, .int .i64 b, .int .i64 c, .int .i64 d]
    go_upto_region 7 with (first | (go_at_call 11; refine (isaAwake_any _).mono ?_; rintro e wn ⟨rfl, hB⟩; have hS := step_box hB (by assumption); obtain ⟨c0, c1, c2, c3, c4, -⟩ := Blk.cells5 hS.2) | (go_at_call 22; refine (U1.out _ _ _).mono ?_; rintro e wn ⟨rfl, hB⟩; have hS := step_box hB (by assumption); obtain ⟨c0, c1, c2, c3, c4, -⟩ := Blk.cells5 hS.2) | (go_at_call 23; refine (U2.out _ _ _ _).mono ?_; rintro e w2 ⟨rfl, hB⟩; have hT := step_box hB (by assumption); have hU : Two w w.heap.size #[.int .u8 op, .int .i64 a, .int .i64 b, .int .i64 c, .int .i64 d] w2.heap.size #[.int .u8 op, .int .i64 a, .int .i64 x, .int .i64 c, .int .i64 d] (w2.alloc (.cells #[.int .u8 op, .int .i64 a, .int .i64 x, .int .i64 c, .int .i64 d] 23)) := ⟨hT.1.alloc hT.1.size _, hT.2.alloc _, Blk.new _ _ _⟩; clear hT))
    generalize w2.alloc (.cells #[.int .u8 op, .int .i64 a, .int .i64 x, .int .i64 c, .int .i64 d] 23) = w3 at *
    generalize w2.heap.size = g at *
    obtain ⟨x0, x1, x2, x3, x4, x5, x6, x7, x8, x9, -⟩ := Two.cells hU
    go_upto_region 8 with (first | (go_at_call 22; refine (U1.out _ _ _).mono ?_; rintro e wn ⟨rfl, hB⟩; have hU := Two.call hB (by assumption); obtain ⟨x0, x1, x2, x3, x4, x5, x6, x7, x8, x9, -⟩ := Two.cells hU))
    go_region_held3 (fun wx => wx.cell? ⟨w.heap.size, 0, none⟩ = some (.int .u8 op) ∧ wx.cell? ⟨w.heap.size, 1, none⟩ = some (.int .i64 a) ∧ wx.cell? ⟨w.heap.size, 2, none⟩ = some (.int .i64 b) ∧ wx.cell? ⟨w.heap.size, 3, none⟩ = some (.int .i64 c) ∧ wx.cell? ⟨w.heap.size, 4, none⟩ = some (.int .i64 d) ∧ wx.cell? ⟨g, 0, none⟩ = some (.int .u8 op) ∧ wx.cell? ⟨g, 1, none⟩ = some (.int .i64 a) ∧ wx.cell? ⟨g, 2, none⟩ = some (.int .i64 x) ∧ wx.cell? ⟨g, 3, none⟩ = some (.int .i64 c) ∧ wx.cell? ⟨g, 4, none⟩ = some (.int .i64 d) ∧ Two w w.heap.size #[.int .u8 op, .int .i64 a, .int .i64 b, .int .i64 c, .int .i64 d] g #[.int .u8 op, .int .i64 a, .int .i64 x, .int .i64 c, .int .i64 d] wx) ((first | exact Two.cells (Two.drew (by assumption)) | exact Two.cells (by assumption))) (first | (go_at_call 23; refine (U2.out _ _ _ _).mono ?_; rintro e wn ⟨rfl, hB⟩; have hU := Two.call hB (Two.held (by assumption))))
    all_goals go_wp2_with fail
    all_goals go_ret
    all_goals exact ⟨by first | rfl | (simp; done), (show Two w w.heap.size #[.int .u8 op, .int .i64 a, .int .i64 b, .int .i64 c, .int .i64 d] g #[.int .u8 op, .int .i64 a, .int .i64 x, .int .i64 c, .int .i64 d] _ from by assumption).1⟩
end Go.Proofs.Ytiimoliolbgjnaa
