/- The walks of the laws of layer 21: each returns true. -/
import Derived.Test.YtiimoliolbgjnaaIsaA
import Derived.Test.YtiimoliolbgjnaaIsaPure2
import Derived.Test.YtiimoliolbgjnaaLaw
import Derived.Deep.RegionHeld3
import Derived.BigQuiet
import Derived.Deep.QuietTactic
namespace Go.Proofs.Ytiimoliolbgjnaa
open Go.RowKit
set_option linter.unusedVariables false
set_option linter.unusedSimpArgs false

/-- the box of the instruction, and the list of its operands -/
def Uni (w : World) (cs1 : Array Value) (g2 : Nat) (cs2 : Array Value) (wx : World) : Prop := Below w.heap.size w wx ∧ Blk wx w.heap.size 23 cs1 ∧ Blk wx g2 3 cs2
theorem Uni.call {w W w' : World} {g2 : Nat} {cs1 cs2 : Array Value} (hB : Below W.heap.size W w') (h : Uni w cs1 g2 cs2 W) : Uni w cs1 g2 cs2 w' :=
  ⟨Below_then h.1 hB, Blk.after hB h.2.1, Blk.after hB h.2.2⟩
theorem Uni.cells {w wx : World} {g2 : Nat} {a b c d e a' b' c' d' : Value} (h : Uni w #[a, b, c, d, e] g2 #[a', b', c', d'] wx) :
    wx.cell? ⟨w.heap.size, 0, none⟩ = some a ∧ wx.cell? ⟨w.heap.size, 1, none⟩ = some b ∧ wx.cell? ⟨w.heap.size, 2, none⟩ = some c ∧ wx.cell? ⟨w.heap.size, 3, none⟩ = some d ∧ wx.cell? ⟨w.heap.size, 4, none⟩ = some e ∧
    wx.cell? ⟨g2, 0, none⟩ = some a' ∧ wx.cell? ⟨g2, 1, none⟩ = some b' ∧ wx.cell? ⟨g2, 2, none⟩ = some c' ∧ wx.cell? ⟨g2, 3, none⟩ = some d' ∧ True :=
  ⟨h.2.1.cell 0, h.2.1.cell 1, h.2.1.cell 2, h.2.1.cell 3, h.2.1.cell 4, h.2.2.cell 0, h.2.2.cell 1, h.2.2.cell 2, h.2.2.cell 3, trivial⟩

set_option maxHeartbeats 8000000 in
theorem isaUnused_walk (op a b c d o2 : Int) (ho : U8 op) (ha : I64 a) (hb : I64 b) (hc : I64 c) (hd : I64 d) (ho2 : U8 o2) (w : World) :
    Calls Try.prog 5 #[.agg #[.int .u8 op, .int .i64 a, .int .i64 b, .int .i64 c, .int .i64 d], .int .u8 o2] w fun e w' => e = .returned (.bool true) ∧ Below w.heap.size w w' := by
  have HC := Lib.hid (Isa.nam_cases op o2)
  have hl4 := Isa.ops_le op
  cases hv : Isa.vld op a b c d
  · have hV := Lib.hid (show ∀ w, Calls Try.prog 12 #[.agg #[.int .u8 op, .int .i64 a, .int .i64 b, .int .i64 c, .int .i64 d]] w fun e w' => e = .returned (.bool false) ∧ Below w.heap.size w w' from fun w => hv ▸ valid_any op a b c d w)
    have Hv := Lib.hid hv
    clear hv
    go_enter Try.func5, Try.ntmps5
    have k0 := box_new w 23 #[.int .u8 op, .int .i64 a, .int .i64 b, .int .i64 c, .int .i64 d]
    go_upto_region 5 with (first | (go_at_call 11; refine (isaAwake_any _).mono ?_; rintro e wn ⟨rfl, hB⟩; have hS := step_box hB (by assumption); obtain ⟨c0, c1, c2, c3, c4, -⟩ := Blk.cells5 hS.2) | (go_at_call 16; refine (operands_any _ _).mono ?_; rintro e wn ⟨rfl, hB⟩; have hS := step_box hB (by assumption); obtain ⟨c0, c1, c2, c3, c4, -⟩ := Blk.cells5 hS.2))
    have hT := (show Below w.heap.size w wn ∧ Blk wn w.heap.size 23 #[.int .u8 op, .int .i64 a, .int .i64 b, .int .i64 c, .int .i64 d] from by assumption)
    have hg : w.heap.size < wn.heap.size := hT.2.lt
    have hU : Uni w #[.int .u8 op, .int .i64 a, .int .i64 b, .int .i64 c, .int .i64 d] wn.heap.size #[.int .i64 a, .int .i64 b, .int .i64 c, .int .i64 d] (wn.alloc (.cells #[.int .i64 a, .int .i64 b, .int .i64 c, .int .i64 d] 3)) := ⟨hT.1.alloc hT.1.size _, hT.2.alloc _, Blk.new _ _ _⟩
    clear hT c0 c1 c2 c3 c4
    generalize wn.alloc (.cells #[.int .i64 a, .int .i64 b, .int .i64 c, .int .i64 d] 3) = w3 at *
    generalize wn.heap.size = g at *
    obtain ⟨x0, x1, x2, x3, x4, x5, x6, x7, x8, -⟩ := Uni.cells hU
    have hl4i : ((Isa.ops op).length : Int) ≤ 4 := by omega
    obtain he | ⟨he, hn1, hn2⟩ | ⟨he, hn1, hn2⟩ := HC.out
    · subst he
      have s1 : (Isa.nam op == Isa.nam op) = true := beq_self_eq_true _
      by_cases e1 : Isa.nam op = []
      · skip
        go_wp2_with (first | (go_at_call 12; refine (hV.out _).mono ?_; rintro e wm ⟨rfl, hB⟩; have hU := Uni.call hB (by assumption); obtain ⟨x0, x1, x2, x3, x4, x5, x6, x7, x8, -⟩ := Uni.cells hU) | (go_at_call 17; refine (mnemonic_any _ _).mono ?_; rintro e wm ⟨rfl, hB⟩; have hU := Uni.call hB (by assumption); obtain ⟨x0, x1, x2, x3, x4, x5, x6, x7, x8, -⟩ := Uni.cells hU))
        all_goals go_ret
        all_goals exact ⟨by first | rfl | (simp [*]; done), (show Uni w #[.int .u8 op, .int .i64 a, .int .i64 b, .int .i64 c, .int .i64 d] g #[.int .i64 a, .int .i64 b, .int .i64 c, .int .i64 d] _ from by assumption).1⟩
      · skip
        go_wp2_with (first | (go_at_call 12; refine (hV.out _).mono ?_; rintro e wm ⟨rfl, hB⟩; have hU := Uni.call hB (by assumption); obtain ⟨x0, x1, x2, x3, x4, x5, x6, x7, x8, -⟩ := Uni.cells hU) | (go_at_call 17; refine (mnemonic_any _ _).mono ?_; rintro e wm ⟨rfl, hB⟩; have hU := Uni.call hB (by assumption); obtain ⟨x0, x1, x2, x3, x4, x5, x6, x7, x8, -⟩ := Uni.cells hU))
        all_goals go_ret
        all_goals exact ⟨by first | rfl | (simp [*]; done), (show Uni w #[.int .u8 op, .int .i64 a, .int .i64 b, .int .i64 c, .int .i64 d] g #[.int .i64 a, .int .i64 b, .int .i64 c, .int .i64 d] _ from by assumption).1⟩
    · have s1 : (op == o2) = false := beq_eq_false_iff_ne.2 he
      go_wp2_with (first | (go_at_call 12; refine (hV.out _).mono ?_; rintro e wm ⟨rfl, hB⟩; have hU := Uni.call hB (by assumption); obtain ⟨x0, x1, x2, x3, x4, x5, x6, x7, x8, -⟩ := Uni.cells hU) | (go_at_call 17; refine (mnemonic_any _ _).mono ?_; rintro e wm ⟨rfl, hB⟩; have hU := Uni.call hB (by assumption); obtain ⟨x0, x1, x2, x3, x4, x5, x6, x7, x8, -⟩ := Uni.cells hU))
      all_goals go_ret
      all_goals exact ⟨by first | rfl | (simp [*]; done), (show Uni w #[.int .u8 op, .int .i64 a, .int .i64 b, .int .i64 c, .int .i64 d] g #[.int .i64 a, .int .i64 b, .int .i64 c, .int .i64 d] _ from by assumption).1⟩
    · have s1 : (op == o2) = false := beq_eq_false_iff_ne.2 he
      have s2 : (Isa.nam op == Isa.nam o2) = false := beq_eq_false_iff_ne.2 hn1
      by_cases e1 : Isa.nam op = []
      · skip
        have e2 := hn2 e1
        rw [e1] at s2
        clear hn1 hn2 he
        go_wp2_with (first | (go_at_call 12; refine (hV.out _).mono ?_; rintro e wm ⟨rfl, hB⟩; have hU := Uni.call hB (by assumption); obtain ⟨x0, x1, x2, x3, x4, x5, x6, x7, x8, -⟩ := Uni.cells hU) | (go_at_call 17; refine (mnemonic_any _ _).mono ?_; rintro e wm ⟨rfl, hB⟩; have hU := Uni.call hB (by assumption); obtain ⟨x0, x1, x2, x3, x4, x5, x6, x7, x8, -⟩ := Uni.cells hU))
        all_goals go_ret
        all_goals exact ⟨by first | rfl | (simp [*]; done), (show Uni w #[.int .u8 op, .int .i64 a, .int .i64 b, .int .i64 c, .int .i64 d] g #[.int .i64 a, .int .i64 b, .int .i64 c, .int .i64 d] _ from by assumption).1⟩
      · clear hn1 hn2 he
        go_wp2_with (first | (go_at_call 12; refine (hV.out _).mono ?_; rintro e wm ⟨rfl, hB⟩; have hU := Uni.call hB (by assumption); obtain ⟨x0, x1, x2, x3, x4, x5, x6, x7, x8, -⟩ := Uni.cells hU) | (go_at_call 17; refine (mnemonic_any _ _).mono ?_; rintro e wm ⟨rfl, hB⟩; have hU := Uni.call hB (by assumption); obtain ⟨x0, x1, x2, x3, x4, x5, x6, x7, x8, -⟩ := Uni.cells hU))
        all_goals go_ret
        all_goals exact ⟨by first | rfl | (simp [*]; done), (show Uni w #[.int .u8 op, .int .i64 a, .int .i64 b, .int .i64 c, .int .i64 d] g #[.int .i64 a, .int .i64 b, .int .i64 c, .int .i64 d] _ from by assumption).1⟩
  · have hV := Lib.hid (show ∀ w, Calls Try.prog 12 #[.agg #[.int .u8 op, .int .i64 a, .int .i64 b, .int .i64 c, .int .i64 d]] w fun e w' => e = .returned (.bool true) ∧ Below w.heap.size w w' from fun w => hv ▸ valid_any op a b c d w)
    have Hv := Lib.hid hv
    clear hv
    go_enter Try.func5, Try.ntmps5
    have k0 := box_new w 23 #[.int .u8 op, .int .i64 a, .int .i64 b, .int .i64 c, .int .i64 d]
    go_upto_region 5 with (first | (go_at_call 11; refine (isaAwake_any _).mono ?_; rintro e wn ⟨rfl, hB⟩; have hS := step_box hB (by assumption); obtain ⟨c0, c1, c2, c3, c4, -⟩ := Blk.cells5 hS.2) | (go_at_call 16; refine (operands_any _ _).mono ?_; rintro e wn ⟨rfl, hB⟩; have hS := step_box hB (by assumption); obtain ⟨c0, c1, c2, c3, c4, -⟩ := Blk.cells5 hS.2))
    have hT := (show Below w.heap.size w wn ∧ Blk wn w.heap.size 23 #[.int .u8 op, .int .i64 a, .int .i64 b, .int .i64 c, .int .i64 d] from by assumption)
    have hg : w.heap.size < wn.heap.size := hT.2.lt
    have hU : Uni w #[.int .u8 op, .int .i64 a, .int .i64 b, .int .i64 c, .int .i64 d] wn.heap.size #[.int .i64 a, .int .i64 b, .int .i64 c, .int .i64 d] (wn.alloc (.cells #[.int .i64 a, .int .i64 b, .int .i64 c, .int .i64 d] 3)) := ⟨hT.1.alloc hT.1.size _, hT.2.alloc _, Blk.new _ _ _⟩
    clear hT c0 c1 c2 c3 c4
    generalize wn.alloc (.cells #[.int .i64 a, .int .i64 b, .int .i64 c, .int .i64 d] 3) = w3 at *
    generalize wn.heap.size = g at *
    obtain ⟨x0, x1, x2, x3, x4, x5, x6, x7, x8, -⟩ := Uni.cells hU
    have hl4i : ((Isa.ops op).length : Int) ≤ 4 := by omega
    have hun := Lib.hid (show ∀ k, k < 4 → (Isa.ops op).length ≤ k → Isa.operand a b c d k = 0 from fun k => Isa.vld_unused Hv.out k)
    go_wp2_with (first | (go_at_call 12; refine (hV.out _).mono ?_; rintro e wm ⟨rfl, hB⟩; have hU := Uni.call hB (by assumption); obtain ⟨x0, x1, x2, x3, x4, x5, x6, x7, x8, -⟩ := Uni.cells hU))
    go_loop [7] (fun i => ∃ k : Nat, (Isa.ops op).length ≤ k ∧ k ≤ 4 ∧ i = .int .i64 k) (fun i => 4 - (intOf i).toNat)
    case atStart => exact ⟨_, Nat.le_refl _, hl4, rfl⟩
    case round =>
      obtain ⟨k, hk1, hk2, rfl⟩ := hrel
      by_cases hk4 : k < 4
      · have hck : wm.cell? ⟨g, k, none⟩ = some (.int .i64 0) := by
          have h0 := hun.out k hk4 hk1
          obtain rfl | rfl | rfl | rfl : k = 0 ∨ k = 1 ∨ k = 2 ∨ k = 3 := by omega
          · rw [x5]; rw [show a = 0 from h0]
          · rw [x6]; rw [show b = 0 from h0]
          · rw [x7]; rw [show c = 0 from h0]
          · rw [x8]; rw [show d = 0 from h0]
        clear x5 x6 x7 x8
        go_wp2
        go_round
        case rel => exact ⟨k + 1, by omega, by omega, by go_num⟩
        case measure => simp [intOf]; omega
      · obtain rfl : k = 4 := by omega
        obtain he | ⟨he, hn1, hn2⟩ | ⟨he, hn1, hn2⟩ := HC.out
        · subst he
          have s1 : (Isa.nam op == Isa.nam op) = true := beq_self_eq_true _
          by_cases e1 : Isa.nam op = []
          · skip
            exact absurd Hv.out (by rw [Isa.nam_vld e1]; simp)
          · skip
            go_wp2_with (first | (go_at_call 12; refine (hV.out _).mono ?_; rintro e wm ⟨rfl, hB⟩; have hU := Uni.call hB (by assumption); obtain ⟨x0, x1, x2, x3, x4, x5, x6, x7, x8, -⟩ := Uni.cells hU) | (go_at_call 17; refine (mnemonic_any _ _).mono ?_; rintro e wm ⟨rfl, hB⟩; have hU := Uni.call hB (by assumption); obtain ⟨x0, x1, x2, x3, x4, x5, x6, x7, x8, -⟩ := Uni.cells hU))
            all_goals go_ret
            all_goals exact ⟨by first | rfl | (simp [*]; done), (show Uni w #[.int .u8 op, .int .i64 a, .int .i64 b, .int .i64 c, .int .i64 d] g #[.int .i64 a, .int .i64 b, .int .i64 c, .int .i64 d] _ from by assumption).1⟩
        · have s1 : (op == o2) = false := beq_eq_false_iff_ne.2 he
          exact absurd Hv.out (by rw [Isa.nam_vld hn1]; simp)
        · have s1 : (op == o2) = false := beq_eq_false_iff_ne.2 he
          have s2 : (Isa.nam op == Isa.nam o2) = false := beq_eq_false_iff_ne.2 hn1
          by_cases e1 : Isa.nam op = []
          · skip
            exact absurd Hv.out (by rw [Isa.nam_vld e1]; simp)
          · clear hn1 hn2 he
            go_wp2_with (first | (go_at_call 12; refine (hV.out _).mono ?_; rintro e wm ⟨rfl, hB⟩; have hU := Uni.call hB (by assumption); obtain ⟨x0, x1, x2, x3, x4, x5, x6, x7, x8, -⟩ := Uni.cells hU) | (go_at_call 17; refine (mnemonic_any _ _).mono ?_; rintro e wm ⟨rfl, hB⟩; have hU := Uni.call hB (by assumption); obtain ⟨x0, x1, x2, x3, x4, x5, x6, x7, x8, -⟩ := Uni.cells hU))
            all_goals go_ret
            all_goals exact ⟨by first | rfl | (simp [*]; done), (show Uni w #[.int .u8 op, .int .i64 a, .int .i64 b, .int .i64 c, .int .i64 d] g #[.int .i64 a, .int .i64 b, .int .i64 c, .int .i64 d] _ from by assumption).1⟩
end Go.Proofs.Ytiimoliolbgjnaa
