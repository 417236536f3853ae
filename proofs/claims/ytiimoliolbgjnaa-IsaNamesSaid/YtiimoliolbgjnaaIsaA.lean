/- The examples of the chapter, that every law of layer 21 looks at first. -/
import Derived.Test.YtiimoliolbgjnaaIsaW4
namespace Go.Proofs.Ytiimoliolbgjnaa
open Go.RowKit
set_option linter.unusedVariables false
set_option linter.unusedSimpArgs false

theorem Below_then {w w1 w2 : World} (h1 : Below w.heap.size w w1) (h2 : Below w1.heap.size w1 w2) : Below w.heap.size w w2 := h1.trans (h2.mono h1.size)

/-- a call that only makes memory: what is below the start and a box of the caller's own are as they were -/
theorem step_box {w W w' : World} {g : Nat} {t : TypeId} {cs : Array Value} (hB : Below W.heap.size W w') (h : Below w.heap.size w W ∧ Blk W g t cs) : Below w.heap.size w w' ∧ Blk w' g t cs :=
  ⟨Below_then h.1 hB, Blk.after hB h.2⟩
theorem box_new (w : World) (t : TypeId) (cs : Array Value) : Below w.heap.size w (w.alloc (.cells cs t)) ∧ Blk (w.alloc (.cells cs t)) w.heap.size t cs := ⟨(Below.refl _ _).alloc (Nat.le_refl _) _, Blk.new _ _ _⟩
theorem box_drew (w : World) (t : TypeId) (cs : Array Value) : Below w.heap.size w (w.alloc (.cells cs t)).drew ∧ Blk (w.alloc (.cells cs t)).drew w.heap.size t cs := ⟨((Below.refl _ _).alloc (Nat.le_refl _) _).drew, (Blk.new _ _ _).drew⟩

/-- two boxes of the caller's own, and what is below the start -/
def Two (w : World) (g1 : Nat) (cs1 : Array Value) (g2 : Nat) (cs2 : Array Value) (wx : World) : Prop := Below w.heap.size w wx ∧ Blk wx g1 23 cs1 ∧ Blk wx g2 23 cs2
theorem Two.call {w W w' : World} {g1 g2 : Nat} {cs1 cs2 : Array Value} (hB : Below W.heap.size W w') (h : Two w g1 cs1 g2 cs2 W) : Two w g1 cs1 g2 cs2 w' :=
  ⟨Below_then h.1 hB, Blk.after hB h.2.1, Blk.after hB h.2.2⟩
theorem Two.drew {w W : World} {g1 g2 : Nat} {cs1 cs2 : Array Value} (h : Two w g1 cs1 g2 cs2 W) : Two w g1 cs1 g2 cs2 W.drew := ⟨h.1.drew, h.2.1.drew, h.2.2.drew⟩
theorem Two.cells {w wx : World} {g1 g2 : Nat} {a b c d e a' b' c' d' e' : Value} (h : Two w g1 #[a, b, c, d, e] g2 #[a', b', c', d', e'] wx) :
    wx.cell? ⟨g1, 0, none⟩ = some a ∧ wx.cell? ⟨g1, 1, none⟩ = some b ∧ wx.cell? ⟨g1, 2, none⟩ = some c ∧ wx.cell? ⟨g1, 3, none⟩ = some d ∧ wx.cell? ⟨g1, 4, none⟩ = some e ∧
    wx.cell? ⟨g2, 0, none⟩ = some a' ∧ wx.cell? ⟨g2, 1, none⟩ = some b' ∧ wx.cell? ⟨g2, 2, none⟩ = some c' ∧ wx.cell? ⟨g2, 3, none⟩ = some d' ∧ wx.cell? ⟨g2, 4, none⟩ = some e' ∧ Two w g1 #[a, b, c, d, e] g2 #[a', b', c', d', e'] wx :=
  ⟨h.2.1.cell 0, h.2.1.cell 1, h.2.1.cell 2, h.2.1.cell 3, h.2.1.cell 4, h.2.2.cell 0, h.2.2.cell 1, h.2.2.cell 2, h.2.2.cell 3, h.2.2.cell 4, h⟩

theorem Two.held {w wx : World} {g1 g2 : Nat} {a b c d e a' b' c' d' e' : Value} (h :
    wx.cell? ⟨g1, 0, none⟩ = some a ∧ wx.cell? ⟨g1, 1, none⟩ = some b ∧ wx.cell? ⟨g1, 2, none⟩ = some c ∧ wx.cell? ⟨g1, 3, none⟩ = some d ∧ wx.cell? ⟨g1, 4, none⟩ = some e ∧
    wx.cell? ⟨g2, 0, none⟩ = some a' ∧ wx.cell? ⟨g2, 1, none⟩ = some b' ∧ wx.cell? ⟨g2, 2, none⟩ = some c' ∧ wx.cell? ⟨g2, 3, none⟩ = some d' ∧ wx.cell? ⟨g2, 4, none⟩ = some e' ∧ Two w g1 #[a, b, c, d, e] g2 #[a', b', c', d', e'] wx) : Two w g1 #[a, b, c, d, e] g2 #[a', b', c', d', e'] wx :=
  h.2.2.2.2.2.2.2.2.2.2

set_option maxHeartbeats 4000000 in
theorem isaAwake_any (w : World) :
    Calls Try.prog 11 #[] w fun e w' => e = .returned (.bool true) ∧ Below w.heap.size w w' := by
  have i1 : ∀ w, Calls Try.prog 15 #[.agg #[.int .u8 1, .int .i64 1, .int .i64 2, .int .i64 0, .int .i64 0]] w fun e w' => e = .returned (.agg #[.int .u8 2, .int .i64 1, .int .i64 2, .int .i64 0, .int .i64 0]) ∧ Below w.heap.size w w' := fun w => inverse_any 1 1 2 0 0 w
  have i2 : ∀ w, Calls Try.prog 15 #[.agg #[.int .u8 23, .int .i64 0, .int .i64 7, .int .i64 0, .int .i64 0]] w fun e w' => e = .returned (.agg #[.int .u8 26, .int .i64 0, .int .i64 7, .int .i64 0, .int .i64 0]) ∧ Below w.heap.size w w' := fun w => inverse_any 23 0 7 0 0 w
  have v1 : ∀ w, Calls Try.prog 12 #[.agg #[.int .u8 9, .int .i64 1, .int .i64 3, .int .i64 2, .int .i64 8]] w fun e w' => e = .returned (.bool true) ∧ Below w.heap.size w w' := fun w => valid_any 9 1 3 2 8 w
  have v2 : ∀ w, Calls Try.prog 12 #[.agg #[.int .u8 9, .int .i64 1, .int .i64 1, .int .i64 2, .int .i64 8]] w fun e w' => e = .returned (.bool false) ∧ Below w.heap.size w w' := fun w => valid_any 9 1 1 2 8 w
  have m1 : ∀ w, Calls Try.prog 17 #[.int .u8 34] w fun e w' => e = .returned (.string ⟨#[104, 97, 108, 116]⟩) ∧ Below w.heap.size w w' := fun w => mnemonic_any 34 w
  have I1 := Lib.hid i1
  have I2 := Lib.hid i2
  have V1 := Lib.hid v1
  have V2 := Lib.hid v2
  have M1 := Lib.hid m1
  clear i1 i2 v1 v2 m1
  go_enter Try.func11, Try.ntmps11
  go_wp2_with fail
  refine (I1.out _).mono ?_
  rintro e w1 ⟨rfl, hB1⟩
  go_wp2_with fail
  refine (I2.out _).mono ?_
  rintro e w2 ⟨rfl, hB2⟩
  go_wp2_with fail
  refine (V1.out _).mono ?_
  rintro e w3 ⟨rfl, hB3⟩
  go_wp2_with fail
  refine (V2.out _).mono ?_
  rintro e w4 ⟨rfl, hB4⟩
  go_wp2_with fail
  refine (M1.out _).mono ?_
  rintro e w5 ⟨rfl, hB5⟩
  go_wp2_with fail
  go_ret
  exact ⟨rfl, Below_then (Below_then (Below_then (Below_then hB1 hB2) hB3) hB4) hB5⟩
end Go.Proofs.Ytiimoliolbgjnaa
