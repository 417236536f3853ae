/- The walks of the laws of layer 21: each returns true. -/
import Derived.Test.YtiimoliolbgjnaaIsaA
import Derived.Test.YtiimoliolbgjnaaIsaR2
import Derived.Test.YtiimoliolbgjnaaLaw
namespace Go.Proofs.Ytiimoliolbgjnaa
open Go.RowKit
set_option linter.unusedVariables false
set_option linter.unusedSimpArgs false

set_option maxHeartbeats 4000000 in
theorem isaValid_walk (op a b c d : Int) (ho : U8 op) (ha : I64 a) (hb : I64 b) (hc : I64 c) (hd : I64 d) (w : World) :
    Calls Try.prog 3 #[.agg #[.int .u8 op, .int .i64 a, .int .i64 b, .int .i64 c, .int .i64 d]] w fun e w' => e = .returned (.bool true) ∧ Below w.heap.size w w' := by
  go_enter Try.func3, Try.ntmps3
  go_wp2_with fail
  have k0 := box_drew w 23 #[.int .u8 op, .int .i64 a, .int .i64 b, .int .i64 c, .int .i64 d]
  have ho' := ho.1
  go_region_with (first | (go_at_call 11; refine (isaAwake_any _).mono ?_; rintro e w' ⟨rfl, hB⟩; have hS := step_box hB (by assumption); obtain ⟨c0, c1, c2, c3, c4, -⟩ := Blk.cells5 hS.2) | (go_at_call 12; refine (valid_any _ _ _ _ _ _).mono ?_; rintro e w' ⟨rfl, hB⟩; have hS := step_box hB (by assumption); obtain ⟨c0, c1, c2, c3, c4, -⟩ := Blk.cells5 hS.2) | (go_at_call 13; refine (rvalid_any _ _ _ _ _ ho' _).mono ?_; rintro e w' ⟨rfl, hB⟩; have hS := step_box hB (by assumption); obtain ⟨c0, c1, c2, c3, c4, -⟩ := Blk.cells5 hS.2))
  all_goals go_wp2_with fail
  all_goals go_ret
  all_goals exact ⟨rfl, hS.1⟩
end Go.Proofs.Ytiimoliolbgjnaa
