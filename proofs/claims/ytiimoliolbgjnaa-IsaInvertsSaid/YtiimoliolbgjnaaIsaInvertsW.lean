/- The walks of the laws of layer 21: each returns true. -/
import Derived.Test.YtiimoliolbgjnaaIsaA
import Derived.Test.YtiimoliolbgjnaaIsaR1
import Derived.Test.YtiimoliolbgjnaaLaw
import Derived.Deep.RegionHeld3
import Derived.BigQuiet
import Derived.Deep.QuietTactic
namespace Go.Proofs.Ytiimoliolbgjnaa
open Go.RowKit
set_option linter.unusedVariables false
set_option linter.unusedSimpArgs false

theorem Two.set0 {w W : World} {g2 : Nat} {cs1 : Array Value} {a b c d e : Value} (hg : w.heap.size < g2) (h : Two w w.heap.size cs1 g2 #[a, b, c, d, e] W) (v : Value) : Two w w.heap.size cs1 g2 #[v, b, c, d, e] (W.setCell ⟨g2, 0, none⟩ v) :=
  ⟨h.1.setCell (Nat.le_of_lt hg) _, h.2.1.far (Nat.ne_of_lt hg) _, h.2.2.set_ 0 v⟩
set_option maxHeartbeats 8000000 in
theorem isaInverts_walk (op a b c d : Int) (ho : U8 op) (ha : I64 a) (hb : I64 b) (hc : I64 c) (hd : I64 d) (w : World) :
    Calls Try.prog 4 #[.agg #[.int .u8 op, .int .i64 a, .int .i64 b, .int .i64 c, .int .i64 d]] w fun e w' => e = .returned (.bool true) ∧ Below w.heap.size w w' := by
  have ho0 := Lib.hid ho.1
  go_enter Try.func4, Try.ntmps4
  have k0 := box_new w 23 #[.int .u8 op, .int .i64 a, .int .i64 b, .int .i64 c, .int .i64 d]
  go_upto_region 4 with (first | (go_at_call 11; refine (isaAwake_any _).mono ?_; rintro e wn ⟨rfl, hB⟩; have hS := step_box hB (by assumption); obtain ⟨c0, c1, c2, c3, c4, -⟩ := Blk.cells5 hS.2))
  have hT := (show Below w.heap.size w _ ∧ Blk _ w.heap.size 23 #[.int .u8 op, .int .i64 a, .int .i64 b, .int .i64 c, .int .i64 d] from ‹Below w.heap.size w wn ∧ _›)
  have hU : Two w w.heap.size #[.int .u8 op, .int .i64 a, .int .i64 b, .int .i64 c, .int .i64 d] wn.heap.size #[.int .u8 op, .int .i64 a, .int .i64 b, .int .i64 c, .int .i64 d] (wn.alloc (.cells #[.int .u8 op, .int .i64 a, .int .i64 b, .int .i64 c, .int .i64 d] 23)) := ⟨hT.1.alloc hT.1.size _, hT.2.alloc _, Blk.new _ _ _⟩
  have hg : w.heap.size < wn.heap.size := hT.2.lt
  clear hT
  generalize wn.alloc (.cells #[.int .u8 op, .int .i64 a, .int .i64 b, .int .i64 c, .int .i64 d] 23) = w3 at *
  generalize wn.heap.size = g at *
  obtain ⟨x0, x1, x2, x3, x4, x5, x6, x7, x8, x9, -⟩ := Two.cells hU

  go_upto_region 5 with (first | (go_at_call 14; refine (rinverse_any op ho0.out _).mono ?_; rintro e wn ⟨rfl, hB⟩; have hU := Two.call hB (by assumption); obtain ⟨x0, x1, x2, x3, x4, x5, x6, x7, x8, x9, -⟩ := Two.cells hU; have xf := hU.2.2.frozen 0))
  have hV := Two.set0 hg (show Two w w.heap.size #[.int .u8 op, .int .i64 a, .int .i64 b, .int .i64 c, .int .i64 d] g #[.int .u8 op, .int .i64 a, .int .i64 b, .int .i64 c, .int .i64 d] wn from by assumption) (.int .u8 (Isa.inv op))
  generalize (wn.setCell ⟨g, 0, none⟩ (.int .u8 (Isa.inv op))) = w5 at *
  go_region_held3 (fun wx => wx.cell? ⟨w.heap.size, 0, none⟩ = some (.int .u8 op) ∧ wx.cell? ⟨w.heap.size, 1, none⟩ = some (.int .i64 a) ∧ wx.cell? ⟨w.heap.size, 2, none⟩ = some (.int .i64 b) ∧ wx.cell? ⟨w.heap.size, 3, none⟩ = some (.int .i64 c) ∧ wx.cell? ⟨w.heap.size, 4, none⟩ = some (.int .i64 d) ∧ wx.cell? ⟨g, 0, none⟩ = some (.int .u8 (Isa.inv op)) ∧ wx.cell? ⟨g, 1, none⟩ = some (.int .i64 a) ∧ wx.cell? ⟨g, 2, none⟩ = some (.int .i64 b) ∧ wx.cell? ⟨g, 3, none⟩ = some (.int .i64 c) ∧ wx.cell? ⟨g, 4, none⟩ = some (.int .i64 d) ∧ Two w w.heap.size #[.int .u8 op, .int .i64 a, .int .i64 b, .int .i64 c, .int .i64 d] g #[.int .u8 (Isa.inv op), .int .i64 a, .int .i64 b, .int .i64 c, .int .i64 d] wx) ((first | exact Two.cells (Two.drew hV) | exact Two.cells (by assumption))) (first | (go_at_call 15; refine (inverse_any _ _ _ _ _ _).mono ?_; rintro e wn ⟨rfl, hB⟩; have hU := Two.call hB (Two.held (by assumption))))
  all_goals go_wp2_with fail
  all_goals go_ret
  all_goals exact ⟨by first | rfl | (simp; done), (show Two w w.heap.size #[.int .u8 op, .int .i64 a, .int .i64 b, .int .i64 c, .int .i64 d] g #[.int .u8 (Isa.inv op), .int .i64 a, .int .i64 b, .int .i64 c, .int .i64 d] _ from by assumption).1⟩
end Go.Proofs.Ytiimoliolbgjnaa
