/- The walks of the laws of layer 21: each returns true. -/
import Derived.Test.YtiimoliolbgjnaaIsaA
import Derived.Test.YtiimoliolbgjnaaLaw
import Derived.Deep.RegionHeld3
import Derived.BigQuiet
import Derived.Deep.QuietTactic
namespace Go.Proofs.Ytiimoliolbgjnaa
open Go.RowKit
set_option linter.unusedVariables false
set_option linter.unusedSimpArgs false

set_option maxHeartbeats 8000000 in
theorem isaJumps_walk (op a b c d : Int) (ho : U8 op) (ha : I64 a) (hb : I64 b) (hc : I64 c) (hd : I64 d) (w : World) :
    Calls Try.prog 8 #[.agg #[.int .u8 op, .int .i64 a, .int .i64 b, .int .i64 c, .int .i64 d]] w fun e w' => e = .returned (.bool true) ∧ Below w.heap.size w w' := by
  have hc1 : (Isa.isJ op = true ∧ Isa.isL op = false ∧ (Isa.tgt op).isSome = true) ∨ (Isa.isJ op = false ∧ Isa.isL op = true ∧ (Isa.tgt op).isSome = true) ∨ (Isa.isJ op = false ∧ Isa.isL op = false) := by
    have h1 := Isa.isJ_isL op
    have h2 := Isa.isJL_tgt op
    cases hj : Isa.isJ op <;> cases hl : Isa.isL op <;> simp_all
  obtain ⟨hj, hl, ht⟩ | ⟨hj, hl, ht⟩ | ⟨hj, hl⟩ := hc1
  · skip
    have q1 : Isa.isL (Isa.inv op) = true := by rw [Isa.isL_inv]; exact hj
    have q2 : Isa.isJ (Isa.inv op) = false := by rw [Isa.isJ_inv]; exact hl
    go_enter Try.func8, Try.ntmps8
    have k0 := box_new w 23 #[.int .u8 op, .int .i64 a, .int .i64 b, .int .i64 c, .int .i64 d]
    go_upto_region 4 with (first | (go_at_call 11; refine (isaAwake_any _).mono ?_; rintro e wn ⟨rfl, hB⟩; have hS := step_box hB (by assumption); obtain ⟨c0, c1, c2, c3, c4, -⟩ := Blk.cells5 hS.2) | (go_at_call 15; refine (inverse_any _ _ _ _ _ _).mono ?_; rintro e w2 ⟨rfl, hB⟩; have hT := step_box hB (by assumption); have hU : Two w w.heap.size #[.int .u8 op, .int .i64 a, .int .i64 b, .int .i64 c, .int .i64 d] w2.heap.size #[.int .u8 (Isa.inv op), .int .i64 a, .int .i64 b, .int .i64 c, .int .i64 d] (w2.alloc (.cells #[.int .u8 (Isa.inv op), .int .i64 a, .int .i64 b, .int .i64 c, .int .i64 d] 23)) := ⟨hT.1.alloc hT.1.size _, hT.2.alloc _, Blk.new _ _ _⟩; clear hT))
    generalize w2.alloc (.cells #[.int .u8 (Isa.inv op), .int .i64 a, .int .i64 b, .int .i64 c, .int .i64 d] 23) = w3 at *
    generalize w2.heap.size = g at *
    obtain ⟨x0, x1, x2, x3, x4, x5, x6, x7, x8, x9, -⟩ := Two.cells hU
    go_upto_region 5 with (first | (go_at_call 22; refine (target2_any _ _ _ _ _ _).mono ?_; rintro e wn ⟨rfl, hB⟩; have hU := Two.call hB (by assumption); obtain ⟨x0, x1, x2, x3, x4, x5, x6, x7, x8, x9, -⟩ := Two.cells hU))
    go_quiet ((first | (go_at_call 20; exact quiet_same (isJump_any _ _)) | (go_at_call 21; exact quiet_same (isLanding_any _ _))))
    go_wp2_with (first | (go_at_call 20; refine (isJump_any _ _).mono ?_; rintro e wn ⟨rfl, rfl⟩) | (go_at_call 21; refine (isLanding_any _ _).mono ?_; rintro e wn ⟨rfl, rfl⟩))
    all_goals go_ret
    all_goals exact ⟨by first | rfl | (simp [*]; done), below_drewN (show Two w w.heap.size #[.int .u8 op, .int .i64 a, .int .i64 b, .int .i64 c, .int .i64 d] g #[.int .u8 (Isa.inv op), .int .i64 a, .int .i64 b, .int .i64 c, .int .i64 d] _ from by assumption).1 _⟩
  · skip
    have q1 : Isa.isL (Isa.inv op) = false := by rw [Isa.isL_inv]; exact hj
    have q2 : Isa.isJ (Isa.inv op) = true := by rw [Isa.isJ_inv]; exact hl
    go_enter Try.func8, Try.ntmps8
    have k0 := box_new w 23 #[.int .u8 op, .int .i64 a, .int .i64 b, .int .i64 c, .int .i64 d]
    go_upto_region 4 with (first | (go_at_call 11; refine (isaAwake_any _).mono ?_; rintro e wn ⟨rfl, hB⟩; have hS := step_box hB (by assumption); obtain ⟨c0, c1, c2, c3, c4, -⟩ := Blk.cells5 hS.2) | (go_at_call 15; refine (inverse_any _ _ _ _ _ _).mono ?_; rintro e w2 ⟨rfl, hB⟩; have hT := step_box hB (by assumption); have hU : Two w w.heap.size #[.int .u8 op, .int .i64 a, .int .i64 b, .int .i64 c, .int .i64 d] w2.heap.size #[.int .u8 (Isa.inv op), .int .i64 a, .int .i64 b, .int .i64 c, .int .i64 d] (w2.alloc (.cells #[.int .u8 (Isa.inv op), .int .i64 a, .int .i64 b, .int .i64 c, .int .i64 d] 23)) := ⟨hT.1.alloc hT.1.size _, hT.2.alloc _, Blk.new _ _ _⟩; clear hT))
    generalize w2.alloc (.cells #[.int .u8 (Isa.inv op), .int .i64 a, .int .i64 b, .int .i64 c, .int .i64 d] 23) = w3 at *
    generalize w2.heap.size = g at *
    obtain ⟨x0, x1, x2, x3, x4, x5, x6, x7, x8, x9, -⟩ := Two.cells hU
    go_upto_region 5 with (first | (go_at_call 22; refine (target2_any _ _ _ _ _ _).mono ?_; rintro e wn ⟨rfl, hB⟩; have hU := Two.call hB (by assumption); obtain ⟨x0, x1, x2, x3, x4, x5, x6, x7, x8, x9, -⟩ := Two.cells hU))
    go_quiet ((first | (go_at_call 20; exact quiet_same (isJump_any _ _)) | (go_at_call 21; exact quiet_same (isLanding_any _ _))))
    go_wp2_with (first | (go_at_call 20; refine (isJump_any _ _).mono ?_; rintro e wn ⟨rfl, rfl⟩) | (go_at_call 21; refine (isLanding_any _ _).mono ?_; rintro e wn ⟨rfl, rfl⟩))
    all_goals go_ret
    all_goals exact ⟨by first | rfl | (simp [*]; done), below_drewN (show Two w w.heap.size #[.int .u8 op, .int .i64 a, .int .i64 b, .int .i64 c, .int .i64 d] g #[.int .u8 (Isa.inv op), .int .i64 a, .int .i64 b, .int .i64 c, .int .i64 d] _ from by assumption).1 _⟩
  · cases hk : (Isa.tgt op).isSome
    all_goals
      skip
      have q1 : Isa.isL (Isa.inv op) = false := by rw [Isa.isL_inv]; exact hj
      have q2 : Isa.isJ (Isa.inv op) = false := by rw [Isa.isJ_inv]; exact hl
      go_enter Try.func8, Try.ntmps8
      have k0 := box_new w 23 #[.int .u8 op, .int .i64 a, .int .i64 b, .int .i64 c, .int .i64 d]
      go_upto_region 4 with (first | (go_at_call 11; refine (isaAwake_any _).mono ?_; rintro e wn ⟨rfl, hB⟩; have hS := step_box hB (by assumption); obtain ⟨c0, c1, c2, c3, c4, -⟩ := Blk.cells5 hS.2) | (go_at_call 15; refine (inverse_any _ _ _ _ _ _).mono ?_; rintro e w2 ⟨rfl, hB⟩; have hT := step_box hB (by assumption); have hU : Two w w.heap.size #[.int .u8 op, .int .i64 a, .int .i64 b, .int .i64 c, .int .i64 d] w2.heap.size #[.int .u8 (Isa.inv op), .int .i64 a, .int .i64 b, .int .i64 c, .int .i64 d] (w2.alloc (.cells #[.int .u8 (Isa.inv op), .int .i64 a, .int .i64 b, .int .i64 c, .int .i64 d] 23)) := ⟨hT.1.alloc hT.1.size _, hT.2.alloc _, Blk.new _ _ _⟩; clear hT))
      generalize w2.alloc (.cells #[.int .u8 (Isa.inv op), .int .i64 a, .int .i64 b, .int .i64 c, .int .i64 d] 23) = w3 at *
      generalize w2.heap.size = g at *
      obtain ⟨x0, x1, x2, x3, x4, x5, x6, x7, x8, x9, -⟩ := Two.cells hU
      go_upto_region 5 with (first | (go_at_call 22; refine (target2_any _ _ _ _ _ _).mono ?_; rintro e wn ⟨rfl, hB⟩; have hU := Two.call hB (by assumption); obtain ⟨x0, x1, x2, x3, x4, x5, x6, x7, x8, x9, -⟩ := Two.cells hU))
      go_quiet ((first | (go_at_call 20; exact quiet_same (isJump_any _ _)) | (go_at_call 21; exact quiet_same (isLanding_any _ _))))
      go_wp2_with (first | (go_at_call 20; refine (isJump_any _ _).mono ?_; rintro e wn ⟨rfl, rfl⟩) | (go_at_call 21; refine (isLanding_any _ _).mono ?_; rintro e wn ⟨rfl, rfl⟩))
      all_goals go_ret
      all_goals exact ⟨by first | rfl | (simp [*]; done), below_drewN (show Two w w.heap.size #[.int .u8 op, .int .i64 a, .int .i64 b, .int .i64 c, .int .i64 d] g #[.int .u8 (Isa.inv op), .int .i64 a, .int .i64 b, .int .i64 c, .int .i64 d] _ from by assumption).1 _⟩
end Go.Proofs.Ytiimoliolbgjnaa
