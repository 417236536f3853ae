/- Contracts of layer 21: operands, target, Target, Retarget. -/
import Derived.Test.YteonkfdmkgjpaaaIsaW2
import Derived.Lib.ConvBytes
namespace Go.Proofs.Yteonkfdmkgjpaaa
open Go.RowKit
set_option linter.unusedVariables false
set_option linter.unusedSimpArgs false

set_option maxHeartbeats 2000000 in
theorem operandPtrs_any (g : Nat) (w : World) :
    Calls Try.prog 52 #[.pointer (some ⟨g, 0, none⟩)] w fun e w' =>
      e = .returned (.slice (some ⟨w.heap.size, 0, none⟩) 4 4) ∧
      w' = (w.alloc (.cells #[.pointer (some ⟨g, 1, none⟩), .pointer (some ⟨g, 2, none⟩), .pointer (some ⟨g, 3, none⟩), .pointer (some ⟨g, 4, none⟩)] 72)).drew := by
  go_enter Try.func52, Try.ntmps52
  go_wp2
  go_region
  all_goals (go_wp2; go_ret; exact ⟨rfl, rfl⟩)

def TgtRel (l : List UInt8) (w wx : World) (s12 s13 s14 : Value) : Prop :=
  ∃ (b c : Nat), s12 = .slice (some ⟨b, 0, none⟩) l.length c ∧ s13 = .int .i64 l.length ∧ s14 = .int .i64 0 ∧ (∀ j, j < l.length → wx.cell? ⟨b, j, none⟩ = some (.int .u8 (l.getD j 0).toNat)) ∧ Below w.heap.size w wx

theorem tgtRel_of {l : List UInt8} {w w' : World} (hB : Below w.heap.size w w') (c : Nat) :
    TgtRel l w (Lib.bytesWorld w' 5 ⟨l.toArray⟩) (.slice (some ⟨w'.heap.size, 0, none⟩) l.length c) (.int .i64 l.length) (.int .i64 0) := by
  refine ⟨_, _, rfl, rfl, rfl, fun j hj => ?_, hB.trans ⟨rfl, rfl, rfl, by rw [Lib.bytesWorld_size]; omega, fun k hk => Lib.bytesWorld_at_old _ _ _ _ (by have := hB.size; omega)⟩⟩
  have := Lib.bytesWorld_cell w' 5 ⟨l.toArray⟩ j (by simpa [ByteArray.size] using hj)
  simpa using this

set_option maxHeartbeats 4000000 in
theorem target_any (g : Nat) (op a b c d : Int) (w : World) (k0 : Blk w g 38 #[.int .u8 op, .int .i64 a, .int .i64 b, .int .i64 c, .int .i64 d]) :
    Calls Try.prog 54 #[.pointer (some ⟨g, 0, none⟩)] w fun e w' =>
      e = .returned (.pointer ((Isa.tgt op).map fun k => ⟨g, k + 1, none⟩)) ∧ Below w.heap.size w w' := by
  have f1 := rowField1
  have hcv := fun wx s => Lib.run_convert_string_bytes (P := Try.prog) wx 9 57 5 s Try.underlying9 Try.underlying57 Try.underlying5
  have c0 := k0.cell 0
  simp at c0
  go_enter Try.func54, Try.ntmps54
  go_upto_region 1 with fail
  go_cut [12, 13, 14] (fun s12 s13 s14 wx => TgtRel (Isa.ops op) w wx s12 s13 s14)
  case first =>
    go_region_with (first | (go_at_call 51; (with_reducible refine (rows_calls w.drew).mono ?_); rintro e w' ⟨b1, rfl, hb, hB, hs⟩; have hlk := look_at w' b1 op hb; rw [rowAt_agg] at hlk; have d0 := (Blk.after hB k0.drew).cell 0; simp at d0))
    all_goals (go_wp2_with fail; go_meet)
    all_goals exact tgtRel_of (l := Isa.ops op) ((Below.refl _ _).drew.trans hB) _
  case rest =>
    obtain ⟨bb, cc, rfl, rfl, rfl, hcell, hB⟩ := hcut
    have hl4 := Isa.ops_le op
    clear f1 hcv c0
    go_wp2
    go_loop [14] (fun i => ∃ k : Nat, k ≤ (Isa.ops op).length ∧ i = .int .i64 k ∧ (∀ j, j < k → (Isa.ops op).getD j 0 ≠ 116)) (fun i => (Isa.ops op).length - (intOf i).toNat)
    case atStart => exact ⟨0, Nat.zero_le _, rfl, fun j hj => absurd hj (Nat.not_lt_zero _)⟩
    case round =>
      obtain ⟨k, hk, rfl, hn⟩ := hrel
      by_cases hlt : k < (Isa.ops op).length
      · have hck := hcell k hlt
        by_cases h : (Isa.ops op).getD k 0 = 116
        · have ht := Lib.hid (Isa.tgt_some hlt h hn)
          rw [h] at hck
          clear hn h hcell
          obtain rfl | rfl | rfl | rfl : k = 0 ∨ k = 1 ∨ k = 2 ∨ k = 3 := by omega
          all_goals
            go_wp2_with (go_at_call 52; refine (operandPtrs_any g _).mono ?_; rintro e w' ⟨rfl, rfl⟩)
            go_ret
            exact ⟨by rw [ht.out]; rfl, (hB.alloc hB.size _).drew⟩
        · have hn' := Lib.hid (show ∀ j, j < k + 1 → (Isa.ops op).getD j 0 ≠ 116 from fun j hj => by
            rcases Nat.lt_succ_iff_lt_or_eq.1 hj with h1 | h1
            · exact hn j h1
            · rw [h1]; exact h)
          have hne : (((((Isa.ops op).getD k 0).toNat : Nat) : Int) == 116) = false := by
            rw [beq_eq_false_iff_ne]
            intro h1
            exact h (UInt8.toNat_inj.1 (by simpa using (Int.ofNat_inj.1 h1)))
          generalize (((Isa.ops op).getD k 0).toNat : Int) = cv at *
          clear hn h hcell
          go_wp2
          go_round
          case rel => exact ⟨k + 1, hlt, by go_num, hn'.out⟩
          case measure => simp [intOf]; omega
      · have ht := Lib.hid (Isa.tgt_none (op := op) (fun j hj => hn j (by omega)))
        clear hn hcell
        go_wp2
        go_ret
        exact ⟨by rw [ht.out]; rfl, hB⟩

set_option maxHeartbeats 2000000 in
theorem isJump_any (op : Int) (w : World) :
    Calls Try.prog 28 #[.int .u8 op] w fun e w' => e = .returned (.bool (Isa.isJ op)) ∧ w = w' := by
  go_enter Try.func28, Try.ntmps28
  go_wp2
  all_goals go_ret
  all_goals exact ⟨by simp [Isa.isJ, *], rfl⟩

set_option maxHeartbeats 2000000 in
theorem isLanding_any (op : Int) (w : World) :
    Calls Try.prog 29 #[.int .u8 op] w fun e w' => e = .returned (.bool (Isa.isL op)) ∧ w = w' := by
  go_enter Try.func29, Try.ntmps29
  go_wp2
  all_goals go_ret
  all_goals exact ⟨by simp [Isa.isL, *], rfl⟩

set_option maxHeartbeats 4000000 in
theorem target2_any (op a b c d : Int) (w : World) :
    Calls Try.prog 33 #[.agg #[.int .u8 op, .int .i64 a, .int .i64 b, .int .i64 c, .int .i64 d]] w fun e w' =>
      e = .returned (.tuple #[.int .i64 (Isa.tval op a b), .bool (Isa.tgt op).isSome]) ∧ Below w.heap.size w w' := by
  have hlast : ∀ w', Below (w.alloc (.cells #[.int .u8 op, .int .i64 a, .int .i64 b, .int .i64 c, .int .i64 d] 38)).heap.size (w.alloc (.cells #[.int .u8 op, .int .i64 a, .int .i64 b, .int .i64 c, .int .i64 d] 38)) w' → Below w.heap.size w w' :=
    fun w' h => ((Below.refl _ _).alloc (Nat.le_refl _) _).trans (h.mono (by simp))
  have Hl := Lib.hid hlast
  clear hlast
  obtain ht | ht | ht := Isa.tgt_cases op
  all_goals
    have Ht := Lib.hid ht
    clear ht
    go_enter Try.func33, Try.ntmps33
    go_wp2_with (go_at_call 54; refine (target_any w.heap.size op a b c d _ (Blk.new _ _ _)).mono ?_; rw [Ht.out]; rintro e w' ⟨rfl, hB⟩; have k1 := Blk.after hB (Blk.new _ _ _); obtain ⟨c0, c1, c2, -⟩ := Blk.cells5 k1; clear k1)
    go_ret2
    exact ⟨by simp [Isa.tval, Ht.out], Hl.out _ hB⟩

set_option maxHeartbeats 4000000 in
theorem retarget_any (op a b c d nt : Int) (w : World) :
    Calls Try.prog 34 #[.agg #[.int .u8 op, .int .i64 a, .int .i64 b, .int .i64 c, .int .i64 d], .int .i64 nt] w fun e w' =>
      e = .returned (.agg #[.int .u8 op, .int .i64 (Isa.reA op a nt), .int .i64 (Isa.reB op b nt), .int .i64 c, .int .i64 d]) ∧ Below w.heap.size w w' := by
  obtain ht | ht | ht := Isa.tgt_cases op
  all_goals
    have Ht := Lib.hid ht
    clear ht
    go_enter Try.func34, Try.ntmps34
    have k0 : Blk ((w.alloc (.cells #[.int .u8 op, .int .i64 a, .int .i64 b, .int .i64 c, .int .i64 d] 38)).alloc (.cells #[.int .u8 0, .int .i64 0, .int .i64 0, .int .i64 0, .int .i64 0] 38)) w.heap.size 38 #[.int .u8 op, .int .i64 a, .int .i64 b, .int .i64 c, .int .i64 d] := Blk.alloc (Blk.new _ _ _) _
    have k1 : Blk ((w.alloc (.cells #[.int .u8 op, .int .i64 a, .int .i64 b, .int .i64 c, .int .i64 d] 38)).alloc (.cells #[.int .u8 0, .int .i64 0, .int .i64 0, .int .i64 0, .int .i64 0] 38)) (w.heap.size + 1) 38 #[.int .u8 0, .int .i64 0, .int .i64 0, .int .i64 0, .int .i64 0] := Blk.new1 _ _ (by simp)
    have kb : Below w.heap.size w ((w.alloc (.cells #[.int .u8 op, .int .i64 a, .int .i64 b, .int .i64 c, .int .i64 d] 38)).alloc (.cells #[.int .u8 0, .int .i64 0, .int .i64 0, .int .i64 0, .int .i64 0] 38)) := ((Below.refl _ _).alloc (Nat.le_refl _) _).alloc (by simp) _
    go_upto_region 1 with fail
    generalize ((w.alloc (.cells #[.int .u8 op, .int .i64 a, .int .i64 b, .int .i64 c, .int .i64 d] 38)).alloc (.cells #[.int .u8 0, .int .i64 0, .int .i64 0, .int .i64 0, .int .i64 0] 38)) = w1 at *
    go_wp2_with (go_at_call 54; refine (target_any w.heap.size op a b c d w1 k0).mono ?_; rw [Ht.out]; rintro e w' ⟨rfl, hB⟩; have j0 := Blk.after hB k0; have j1 := Blk.after hB k1; obtain ⟨c0, c1, c2, c3, c4, f0, f1, f2, f3, f4⟩ := Blk.cells5 j0; obtain ⟨d0, d1, d2, d3, d4, e0, e1, e2, e3, e4⟩ := Blk.cells5 j1; have kb' := kb.trans (hB.mono kb.size); clear j0 j1 hB)
    exact bodyPost_ret (v := .agg #[.int .u8 op, .int .i64 (Isa.reA op a nt), .int .i64 (Isa.reB op b nt), .int .i64 c, .int .i64 d]) (by simp [results, Try.results34, go_sem, d0, d1, d2, d3, d4, Isa.reA, Isa.reB, Ht.out]) rfl
      ⟨rfl, by repeat (first | (with_reducible exact kb') | (with_reducible refine Below.setCell ?_ (by simp) _))⟩
end Go.Proofs.Yteonkfdmkgjpaaa
