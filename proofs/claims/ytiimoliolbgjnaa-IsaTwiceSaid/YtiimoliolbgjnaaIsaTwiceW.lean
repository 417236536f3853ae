/- The walks of the laws of layer 21: each returns true. -/
import Derived.Test.YtiimoliolbgjnaaIsaA
import Derived.Test.YtiimoliolbgjnaaLaw
import Derived.Deep.RegionHeld3
import Derived.BigQuiet
import Derived.Deep.QuietTactic
namespace Go.Proofs.Ytiimoliolbgjnaa
open Go.RowKit
set_option linter.unusedVariables false
set_option linter.unusedSimpArgs false

set_option maxHeartbeats 8000000 in
theorem isaTwice_walk (op a b c d : Int) (ho : U8 op) (ha : I64 a) (hb : I64 b) (hc : I64 c) (hd : I64 d) (w : World) :
    Calls Try.prog 7 #[.agg #[.int .u8 op, .int .i64 a, .int .i64 b, .int .i64 c, .int .i64 d]] w fun e w' => e = .returned (.bool true) ∧ Below w.heap.size w w' := by
  go_enter Try.func7, Try.ntmps7
  have k0 := box_new w 23 #[.int .u8 op, .int .i64 a, .int .i64 b, .int .i64 c, .int .i64 d]
  go_upto_region 4 with (first | (go_at_call 11; refine (isaAwake_any _).mono ?_; rintro e wn ⟨rfl, hB⟩; have hS := step_box hB (by assumption); obtain ⟨c0, c1, c2, c3, c4, -⟩ := Blk.cells5 hS.2) | (go_at_call 15; refine (inverse_any _ _ _ _ _ _).mono ?_; rintro e w2 ⟨rfl, hB⟩; have hT := step_box hB hS; clear hB hS c0 c1 c2 c3 c4; have hU : Two w w.heap.size #[.int .u8 op, .int .i64 a, .int .i64 b, .int .i64 c, .int .i64 d] w2.heap.size #[.int .u8 (Isa.inv op), .int .i64 a, .int .i64 b, .int .i64 c, .int .i64 d] (w2.alloc (.cells #[.int .u8 (Isa.inv op), .int .i64 a, .int .i64 b, .int .i64 c, .int .i64 d] 23)) := ⟨hT.1.alloc hT.1.size _, hT.2.alloc _, Blk.new _ _ _⟩; clear hT))
  generalize w2.alloc (.cells #[.int .u8 (Isa.inv op), .int .i64 a, .int .i64 b, .int .i64 c, .int .i64 d] 23) = w3 at *
  generalize w2.heap.size = g at *
  obtain ⟨x0, x1, x2, x3, x4, x5, x6, x7, x8, x9, -⟩ := Two.cells hU
  go_upto_region 6 with (first | (go_at_call 22; refine (target2_any _ _ _ _ _ _).mono ?_; rintro e wn ⟨rfl, hB⟩; have hU := Two.call hB (by assumption); obtain ⟨x0, x1, x2, x3, x4, x5, x6, x7, x8, x9, -⟩ := Two.cells hU))
  have r1 := Isa.inv_inv op
  have r2 := Isa.tval_inv op a b
  have r3 := Isa.tgt_inv op
  have r4 := Isa.vld_inv op a b c d
  have r5 := Isa.ops_inv op
  go_region_held3 (fun wx => wx.cell? ⟨w.heap.size, 0, none⟩ = some (.int .u8 op) ∧ wx.cell? ⟨w.heap.size, 1, none⟩ = some (.int .i64 a) ∧ wx.cell? ⟨w.heap.size, 2, none⟩ = some (.int .i64 b) ∧ wx.cell? ⟨w.heap.size, 3, none⟩ = some (.int .i64 c) ∧ wx.cell? ⟨w.heap.size, 4, none⟩ = some (.int .i64 d) ∧ wx.cell? ⟨g, 0, none⟩ = some (.int .u8 (Isa.inv op)) ∧ wx.cell? ⟨g, 1, none⟩ = some (.int .i64 a) ∧ wx.cell? ⟨g, 2, none⟩ = some (.int .i64 b) ∧ wx.cell? ⟨g, 3, none⟩ = some (.int .i64 c) ∧ wx.cell? ⟨g, 4, none⟩ = some (.int .i64 d) ∧ Two w w.heap.size #[.int .u8 op, .int .i64 a, .int .i64 b, .int .i64 c, .int .i64 d] g #[.int .u8 (Isa.inv op), .int .i64 a, .int .i64 b, .int .i64 c, .int .i64 d] wx) ((first | exact Two.cells (Two.drew (by assumption)) | exact Two.cells (by assumption) | (trace_state; fail))) (first | (go_at_call 15; refine (inverse_any _ _ _ _ _ _).mono ?_; rintro e wn ⟨rfl, hB⟩; have hU := Two.call hB (Two.held (by assumption))) | (go_at_call 12; refine (valid_any _ _ _ _ _ _).mono ?_; rintro e wn ⟨rfl, hB⟩; have hU := Two.call hB (Two.held (by assumption))) | (go_at_call 16; refine (operands_any _ _).mono ?_; rintro e wn ⟨rfl, hB⟩; have hU := Two.call hB (Two.held (by assumption))))
  all_goals go_wp2_with fail
  all_goals go_ret
  all_goals exact ⟨rfl, (show Two w w.heap.size #[.int .u8 op, .int .i64 a, .int .i64 b, .int .i64 c, .int .i64 d] g #[.int .u8 (Isa.inv op), .int .i64 a, .int .i64 b, .int .i64 c, .int .i64 d] _ from by assumption).1⟩
end Go.Proofs.Ytiimoliolbgjnaa
