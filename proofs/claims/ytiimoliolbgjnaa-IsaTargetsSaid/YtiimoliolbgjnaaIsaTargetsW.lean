/- The walks of the laws of layer 21: each returns true. -/
import Derived.Test.YtiimoliolbgjnaaIsaA
import Derived.Test.YtiimoliolbgjnaaIsaR1
import Derived.Test.YtiimoliolbgjnaaLaw
import Derived.Deep.RegionHeld3
import Derived.BigQuiet
import Derived.Deep.QuietTactic
namespace Go.Proofs.Ytiimoliolbgjnaa
open Go.RowKit
set_option linter.unusedVariables false
set_option linter.unusedSimpArgs false

set_option maxHeartbeats 8000000 in
theorem isaTargets_walk (op a b c d nt : Int) (ho : U8 op) (ha : I64 a) (hb : I64 b) (hc : I64 c) (hd : I64 d) (hn : I64 nt) (w : World) :
    Calls Try.prog 9 #[.agg #[.int .u8 op, .int .i64 a, .int .i64 b, .int .i64 c, .int .i64 d], .int .i64 nt] w fun e w' => e = .returned (.bool true) ∧ Below w.heap.size w w' := by
  obtain ht | ht | ht := Isa.tgt_cases op
  · have u1 : ∀ w, Calls Try.prog 22 #[.agg #[.int .u8 op, .int .i64 a, .int .i64 b, .int .i64 c, .int .i64 d]] w fun e w' => e = .returned (.tuple #[.int .i64 (0), .bool false]) ∧ Below w.heap.size w w' := fun w => by
      have h := target2_any op a b c d w
      rw [ht, show Isa.tval op a b = 0 from by simp [Isa.tval, ht]] at h
      exact h
    have u2 : ∀ w, Calls Try.prog 23 #[.agg #[.int .u8 op, .int .i64 a, .int .i64 b, .int .i64 c, .int .i64 d], .int .i64 nt] w fun e w' => e = .returned (.agg #[.int .u8 op, .int .i64 a, .int .i64 b, .int .i64 c, .int .i64 d]) ∧ Below w.heap.size w w' := fun w => by
      have h := retarget_any op a b c d nt w
      rw [show Isa.reA op a nt = a from by simp [Isa.reA, ht], show Isa.reB op b nt = b from by simp [Isa.reB, ht]] at h
      exact h
    have u3 : ∀ w, Calls Try.prog 24 #[.int .u8 op] w fun e w' => e = .returned (.int .i64 (-1)) ∧ w = w' := fun w => by
      have h := rtarget_any op ho.1 w
      rw [ht] at h
      exact h
    have U1 := Lib.hid u1
    have U2 := Lib.hid u2
    have U3 := Lib.hid u3
    clear u1 u2 u3 ht
    go_enter Try.func9, Try.ntmps9
    have k0 := box_new w 23 #[.int .u8 op, .int .i64 a, .int .i64 b, .int .i64 c, .int .i64 d]
    go_upto_region 5 with (first | (go_at_call 11; refine (isaAwake_any _).mono ?_; rintro e wn ⟨rfl, hB⟩; have hS := step_box hB (by assumption); obtain ⟨c0, c1, c2, c3, c4, -⟩ := Blk.cells5 hS.2) | (go_at_call 22; refine (U1.out _).mono ?_; rintro e wn ⟨rfl, hB⟩; have hS := step_box hB (by assumption); obtain ⟨c0, c1, c2, c3, c4, -⟩ := Blk.cells5 hS.2) | (go_at_call 23; refine (U2.out _).mono ?_; rintro e w2 ⟨rfl, hB⟩; have hT := step_box hB (by assumption); have hU : Two w w.heap.size #[.int .u8 op, .int .i64 a, .int .i64 b, .int .i64 c, .int .i64 d] w2.heap.size #[.int .u8 op, .int .i64 a, .int .i64 b, .int .i64 c, .int .i64 d] (w2.alloc (.cells #[.int .u8 op, .int .i64 a, .int .i64 b, .int .i64 c, .int .i64 d] 23)) := ⟨hT.1.alloc hT.1.size _, hT.2.alloc _, Blk.new _ _ _⟩; clear hT))
    generalize w2.alloc (.cells #[.int .u8 op, .int .i64 a, .int .i64 b, .int .i64 c, .int .i64 d] 23) = w3 at *
    generalize w2.heap.size = g at *
    obtain ⟨x0, x1, x2, x3, x4, x5, x6, x7, x8, x9, -⟩ := Two.cells hU
    go_wp2_with (first | (go_at_call 24; refine (U3.out _).mono ?_; rintro e wn ⟨rfl, rfl⟩))
    all_goals go_ret
    all_goals exact ⟨by first | rfl | (simp; done), (show Two w w.heap.size #[.int .u8 op, .int .i64 a, .int .i64 b, .int .i64 c, .int .i64 d] g #[.int .u8 op, .int .i64 a, .int .i64 b, .int .i64 c, .int .i64 d] _ from by assumption).1⟩
  · have u1 : ∀ w, Calls Try.prog 22 #[.agg #[.int .u8 op, .int .i64 a, .int .i64 b, .int .i64 c, .int .i64 d]] w fun e w' => e = .returned (.tuple #[.int .i64 a, .bool true]) ∧ Below w.heap.size w w' := fun w => by
      have h := target2_any op a b c d w
      rw [ht, show Isa.tval op a b = a from by simp [Isa.tval, ht]] at h
      exact h
    have u2 : ∀ w, Calls Try.prog 23 #[.agg #[.int .u8 op, .int .i64 a, .int .i64 b, .int .i64 c, .int .i64 d], .int .i64 nt] w fun e w' => e = .returned (.agg #[.int .u8 op, .int .i64 nt, .int .i64 b, .int .i64 c, .int .i64 d]) ∧ Below w.heap.size w w' := fun w => by
      have h := retarget_any op a b c d nt w
      rw [show Isa.reA op a nt = nt from by simp [Isa.reA, ht], show Isa.reB op b nt = b from by simp [Isa.reB, ht]] at h
      exact h
    have u3 : ∀ w, Calls Try.prog 24 #[.int .u8 op] w fun e w' => e = .returned (.int .i64 (0)) ∧ w = w' := fun w => by
      have h := rtarget_any op ho.1 w
      rw [ht] at h
      exact h
    have U1 := Lib.hid u1
    have U2 := Lib.hid u2
    have U3 := Lib.hid u3
    clear u1 u2 u3 ht
    go_enter Try.func9, Try.ntmps9
    have k0 := box_new w 23 #[.int .u8 op, .int .i64 a, .int .i64 b, .int .i64 c, .int .i64 d]
    go_upto_region 5 with (first | (go_at_call 11; refine (isaAwake_any _).mono ?_; rintro e wn ⟨rfl, hB⟩; have hS := step_box hB (by assumption); obtain ⟨c0, c1, c2, c3, c4, -⟩ := Blk.cells5 hS.2) | (go_at_call 22; refine (U1.out _).mono ?_; rintro e wn ⟨rfl, hB⟩; have hS := step_box hB (by assumption); obtain ⟨c0, c1, c2, c3, c4, -⟩ := Blk.cells5 hS.2) | (go_at_call 23; refine (U2.out _).mono ?_; rintro e w2 ⟨rfl, hB⟩; have hT := step_box hB (by assumption); have hU : Two w w.heap.size #[.int .u8 op, .int .i64 a, .int .i64 b, .int .i64 c, .int .i64 d] w2.heap.size #[.int .u8 op, .int .i64 nt, .int .i64 b, .int .i64 c, .int .i64 d] (w2.alloc (.cells #[.int .u8 op, .int .i64 nt, .int .i64 b, .int .i64 c, .int .i64 d] 23)) := ⟨hT.1.alloc hT.1.size _, hT.2.alloc _, Blk.new _ _ _⟩; clear hT))
    generalize w2.alloc (.cells #[.int .u8 op, .int .i64 nt, .int .i64 b, .int .i64 c, .int .i64 d] 23) = w3 at *
    generalize w2.heap.size = g at *
    obtain ⟨x0, x1, x2, x3, x4, x5, x6, x7, x8, x9, -⟩ := Two.cells hU
    go_wp2_with (first | (go_at_call 24; refine (U3.out _).mono ?_; rintro e wn ⟨rfl, rfl⟩))
    all_goals go_ret
    all_goals exact ⟨by first | rfl | (simp; done), (show Two w w.heap.size #[.int .u8 op, .int .i64 a, .int .i64 b, .int .i64 c, .int .i64 d] g #[.int .u8 op, .int .i64 nt, .int .i64 b, .int .i64 c, .int .i64 d] _ from by assumption).1⟩
  · have u1 : ∀ w, Calls Try.prog 22 #[.agg #[.int .u8 op, .int .i64 a, .int .i64 b, .int .i64 c, .int .i64 d]] w fun e w' => e = .returned (.tuple #[.int .i64 b, .bool true]) ∧ Below w.heap.size w w' := fun w => by
      have h := target2_any op a b c d w
      rw [ht, show Isa.tval op a b = b from by simp [Isa.tval, ht]] at h
      exact h
    have u2 : ∀ w, Calls Try.prog 23 #[.agg #[.int .u8 op, .int .i64 a, .int .i64 b, .int .i64 c, .int .i64 d], .int .i64 nt] w fun e w' => e = .returned (.agg #[.int .u8 op, .int .i64 a, .int .i64 nt, .int .i64 c, .int .i64 d]) ∧ Below w.heap.size w w' := fun w => by
      have h := retarget_any op a b c d nt w
      rw [show Isa.reA op a nt = a from by simp [Isa.reA, ht], show Isa.reB op b nt = nt from by simp [Isa.reB, ht]] at h
      exact h
    have u3 : ∀ w, Calls Try.prog 24 #[.int .u8 op] w fun e w' => e = .returned (.int .i64 (1)) ∧ w = w' := fun w => by
      have h := rtarget_any op ho.1 w
      rw [ht] at h
      exact h
    have U1 := Lib.hid u1
    have U2 := Lib.hid u2
    have U3 := Lib.hid u3
    clear u1 u2 u3 ht
    go_enter Try.func9, Try.ntmps9
    have k0 := box_new w 23 #[.int .u8 op, .int .i64 a, .int .i64 b, .int .i64 c, .int .i64 d]
    go_upto_region 5 with (first | (go_at_call 11; refine (isaAwake_any _).mono ?_; rintro e wn ⟨rfl, hB⟩; have hS := step_box hB (by assumption); obtain ⟨c0, c1, c2, c3, c4, -⟩ := Blk.cells5 hS.2) | (go_at_call 22; refine (U1.out _).mono ?_; rintro e wn ⟨rfl, hB⟩; have hS := step_box hB (by assumption); obtain ⟨c0, c1, c2, c3, c4, -⟩ := Blk.cells5 hS.2) | (go_at_call 23; refine (U2.out _).mono ?_; rintro e w2 ⟨rfl, hB⟩; have hT := step_box hB (by assumption); have hU : Two w w.heap.size #[.int .u8 op, .int .i64 a, .int .i64 b, .int .i64 c, .int .i64 d] w2.heap.size #[.int .u8 op, .int .i64 a, .int .i64 nt, .int .i64 c, .int .i64 d] (w2.alloc (.cells #[.int .u8 op, .int .i64 a, .int .i64 nt, .int .i64 c, .int .i64 d] 23)) := ⟨hT.1.alloc hT.1.size _, hT.2.alloc _, Blk.new _ _ _⟩; clear hT))
    generalize w2.alloc (.cells #[.int .u8 op, .int .i64 a, .int .i64 nt, .int .i64 c, .int .i64 d] 23) = w3 at *
    generalize w2.heap.size = g at *
    obtain ⟨x0, x1, x2, x3, x4, x5, x6, x7, x8, x9, -⟩ := Two.cells hU
    go_wp2_with (first | (go_at_call 24; refine (U3.out _).mono ?_; rintro e wn ⟨rfl, rfl⟩))
    all_goals go_ret
    all_goals exact ⟨by first | rfl | (simp; done), (show Two w w.heap.size #[.int .u8 op, .int .i64 a, .int .i64 b, .int .i64 c, .int .i64 d] g #[.int .u8 op, .int .i64 a, .int .i64 nt, .int .i64 c, .int .i64 d] _ from by assumption).1⟩
end Go.Proofs.Ytiimoliolbgjnaa
