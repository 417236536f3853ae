/- Contracts of layer 23: nested, regions, fault, Check. -/
import Derived.Test.YteonkfdmkgjpaaaImgW1
import Derived.Test.YteonkfdmkgjpaaaImgPure2
import Derived.Test.YteonkfdmkgjpaaaCode2
import Derived.Test.YteonkfdmkgjpaaaCode
import Derived.Deep.RegionHeld3
import Derived.Deep.DeepCutAuto
import Derived.BigQuiet
import Derived.Deep.QuietTactic
namespace Go.Proofs.Yteonkfdmkgjpaaa
open Go.RowKit
set_option linter.unusedVariables false
set_option linter.unusedSimpArgs false

set_option maxHeartbeats 8000000 in
theorem nested_any (l : List Ins) (b o cap : Nat) (mem st : Int) (k : Nat) (w : World) (hn0 : l.length ≤ 65536) (hk : k < l.length) (hcB : CodeB w b o l) :
    Calls Try.prog 66 #[.agg #[.slice (some ⟨b, o, none⟩) l.length cap, .int .i64 mem, .int .i64 st], .int .i64 k] w fun e w' => e = .returned (.bool (Img.nested l k)) ∧ Below w.heap.size w w' := by
  go_enter Try.func66, Try.ntmps66
  go_wp2
  have hS := (St.start w).alloc #[.slice (some ⟨b, o, none⟩) l.length cap, .int .i64 mem, .int .i64 st] 24
  generalize (w.alloc (.cells #[.slice (some ⟨b, o, none⟩) l.length cap, .int .i64 mem, .int .i64 st] 24)) = w1 at *
  go_loopw [12] (fun s wr => ∃ i : Nat, i ≤ l.length ∧ s = .int .i64 i ∧ St w [(w.heap.size, 24, #[.slice (some ⟨b, o, none⟩) l.length cap, .int .i64 mem, .int .i64 st])] wr ∧ Hid (∀ j, j < i → j < k → Img.covers l j k = false)) (fun s _ => l.length - (intOf s).toNat)
  case atStart => exact ⟨0, Nat.zero_le _, rfl, hS, fun j hj => absurd hj (Nat.not_lt_zero _)⟩
  case round =>
    clear hS
    obtain ⟨i, hi, rfl, hS, hn⟩ := hrel
    obtain ⟨i0, i1, i2, -⟩ := Blk.cells3 hS.b1
    have hcW := CodeB.after hS.1 hcB
    have hcell := hcW.2
    have hb := hcW.1
    clear hcW
    by_cases hil : i < l.length
    · go_upto_region 4 with fail
      have hS2 := hS.alloc #[.int .u8 (Img.at_ l i).op, .int .i64 (Img.at_ l i).a, .int .i64 (Img.at_ l i).b, .int .i64 (Img.at_ l i).c, .int .i64 (Img.at_ l i).d] 38
      generalize (wr.alloc (.cells #[.int .u8 (Img.at_ l i).op, .int .i64 (Img.at_ l i).a, .int .i64 (Img.at_ l i).b, .int .i64 (Img.at_ l i).c, .int .i64 (Img.at_ l i).d] 38)) = w3 at *
      generalize wr.heap.size = g at *
      clear hcell hb i0 i1 i2
      obtain ⟨x0, x1, x2, x3, x4, -⟩ := Blk.cells5 hS2.b1
      obtain ⟨i0, i1, i2, -⟩ := Blk.cells3 hS2.b2
      cases hp : Img.partner l i with
      | none =>
        have HPC := Lib.hid (show ∀ wx, CodeB wx b o l → Calls Try.prog 27 #[.agg #[.slice (some ⟨b, o, none⟩) l.length cap, .int .i64 mem, .int .i64 st], .int .i64 i] wx fun e w' => e = .returned (.tuple #[.int .i64 0, .bool false]) ∧ Below wx.heap.size wx w' from fun wx h => by
            have := partner_in l b o cap mem st i wx (by omega) h
            rw [hp] at this
            exact this)
        have hnx := Lib.hid (show ∀ j, j < i + 1 → j < k → Img.covers l j k = false from fun j hj hjk => by
          rcases Nat.lt_succ_iff_lt_or_eq.1 hj with h1 | h1
          · exact hn.out j h1 hjk
          · subst h1; exact Img.covers_none hp)
        clear hp hn
        go_wp2_with (first | (go_at_call 27; refine (HPC.out _ (CodeB.after (show St w _ _ from by assumption).1 hcB)).mono ?_; rintro e wn ⟨rfl, hB⟩; have hS := St.call hB (show St w _ _ from by assumption); obtain ⟨x0, x1, x2, x3, x4, -⟩ := Blk.cells5 hS.b1; obtain ⟨i0, i1, i2, -⟩ := Blk.cells3 hS.b2))
        go_roundw
        case rel => exact ⟨i + 1, hil, by go_num, (show St w [(g, 38, #[.int .u8 (Img.at_ l i).op, .int .i64 (Img.at_ l i).a, .int .i64 (Img.at_ l i).b, .int .i64 (Img.at_ l i).c, .int .i64 (Img.at_ l i).d]), (w.heap.size, 24, #[.slice (some ⟨b, o, none⟩) l.length cap, .int .i64 mem, .int .i64 st])] _ from by assumption).tail, hnx⟩
        case measure => simp [intOf]; omega
      | some pe =>
        have HPC := Lib.hid (show ∀ wx, CodeB wx b o l → Calls Try.prog 27 #[.agg #[.slice (some ⟨b, o, none⟩) l.length cap, .int .i64 mem, .int .i64 st], .int .i64 i] wx fun e w' => e = .returned (.tuple #[.int .i64 pe, .bool true]) ∧ Below wx.heap.size wx w' from fun wx h => by
            have := partner_in l b o cap mem st i wx (by omega) h
            rw [hp] at this
            exact this)
        have hcv := Img.covers_some (k := k) hp
        by_cases hq : (Img.at_ l i).op = 32 ∧ i < k ∧ k ≤ pe
        · obtain ⟨q1, q2, q3⟩ := hq
          have HT := Lib.hid (Img.nested_true q2 (hcv.trans (by simp [Img.isS, q1, q3, Nat.le_of_lt q2])))
          have o1 : ((Img.at_ l i).op == 32) = true := beq_iff_eq.2 q1
          have o2 : decide (i < k) = true := decide_eq_true q2
          have o3 : decide (k ≤ pe) = true := decide_eq_true q3
          clear hp hn hcv q1 q2 q3
          go_wp2_with (first | (go_at_call 27; refine (HPC.out _ (CodeB.after (show St w _ _ from by assumption).1 hcB)).mono ?_; rintro e wn ⟨rfl, hB⟩; have hS := St.call hB (show St w _ _ from by assumption); obtain ⟨x0, x1, x2, x3, x4, -⟩ := Blk.cells5 hS.b1; obtain ⟨i0, i1, i2, -⟩ := Blk.cells3 hS.b2))
          go_ret
          exact ⟨by rw [HT.out]; rfl, (show St w [(g, 38, #[.int .u8 (Img.at_ l i).op, .int .i64 (Img.at_ l i).a, .int .i64 (Img.at_ l i).b, .int .i64 (Img.at_ l i).c, .int .i64 (Img.at_ l i).d]), (w.heap.size, 24, #[.slice (some ⟨b, o, none⟩) l.length cap, .int .i64 mem, .int .i64 st])] _ from by assumption).1⟩
        · have hnx := Lib.hid (show ∀ j, j < i + 1 → j < k → Img.covers l j k = false from fun j hj hjk => by
            rcases Nat.lt_succ_iff_lt_or_eq.1 hj with h1 | h1
            · exact hn.out j h1 hjk
            · subst h1
              rw [hcv]
              cases hz : (Img.isS (Img.at_ l j) && (decide (j ≤ k) && decide (k ≤ pe)))
              · rfl
              · simp [Img.isS] at hz; exact absurd ⟨hz.1, hjk, hz.2.2⟩ hq)
          clear hp hn hcv
          by_cases q1 : (Img.at_ l i).op = 32
          · have o1 : ((Img.at_ l i).op == 32) = true := beq_iff_eq.2 q1
            clear q1
            by_cases q2 : i < k
            · have o2 : decide (i < k) = true := decide_eq_true q2
              have o3 : decide (k ≤ pe) = false := decide_eq_false (fun h => hq ⟨beq_iff_eq.1 o1, q2, h⟩)
              clear hq
              go_wp2_with (first | (go_at_call 27; refine (HPC.out _ (CodeB.after (show St w _ _ from by assumption).1 hcB)).mono ?_; rintro e wn ⟨rfl, hB⟩; have hS := St.call hB (show St w _ _ from by assumption); obtain ⟨x0, x1, x2, x3, x4, -⟩ := Blk.cells5 hS.b1; obtain ⟨i0, i1, i2, -⟩ := Blk.cells3 hS.b2))
              go_roundw
              case rel => exact ⟨i + 1, hil, by go_num, (show St w [(g, 38, #[.int .u8 (Img.at_ l i).op, .int .i64 (Img.at_ l i).a, .int .i64 (Img.at_ l i).b, .int .i64 (Img.at_ l i).c, .int .i64 (Img.at_ l i).d]), (w.heap.size, 24, #[.slice (some ⟨b, o, none⟩) l.length cap, .int .i64 mem, .int .i64 st])] _ from by assumption).tail, hnx⟩
              case measure => simp [intOf]; omega
            · have o2 : decide (i < k) = false := decide_eq_false q2
              clear hq
              go_wp2_with (first | (go_at_call 27; refine (HPC.out _ (CodeB.after (show St w _ _ from by assumption).1 hcB)).mono ?_; rintro e wn ⟨rfl, hB⟩; have hS := St.call hB (show St w _ _ from by assumption); obtain ⟨x0, x1, x2, x3, x4, -⟩ := Blk.cells5 hS.b1; obtain ⟨i0, i1, i2, -⟩ := Blk.cells3 hS.b2))
              go_roundw
              case rel => exact ⟨i + 1, hil, by go_num, (show St w [(g, 38, #[.int .u8 (Img.at_ l i).op, .int .i64 (Img.at_ l i).a, .int .i64 (Img.at_ l i).b, .int .i64 (Img.at_ l i).c, .int .i64 (Img.at_ l i).d]), (w.heap.size, 24, #[.slice (some ⟨b, o, none⟩) l.length cap, .int .i64 mem, .int .i64 st])] _ from by assumption).tail, hnx⟩
              case measure => simp [intOf]; omega
          · have o1 : ((Img.at_ l i).op == 32) = false := beq_eq_false_iff_ne.2 q1
            clear hq q1
            go_wp2_with (first | (go_at_call 27; refine (HPC.out _ (CodeB.after (show St w _ _ from by assumption).1 hcB)).mono ?_; rintro e wn ⟨rfl, hB⟩; have hS := St.call hB (show St w _ _ from by assumption); obtain ⟨x0, x1, x2, x3, x4, -⟩ := Blk.cells5 hS.b1; obtain ⟨i0, i1, i2, -⟩ := Blk.cells3 hS.b2))
            go_roundw
            case rel => exact ⟨i + 1, hil, by go_num, (show St w [(g, 38, #[.int .u8 (Img.at_ l i).op, .int .i64 (Img.at_ l i).a, .int .i64 (Img.at_ l i).b, .int .i64 (Img.at_ l i).c, .int .i64 (Img.at_ l i).d]), (w.heap.size, 24, #[.slice (some ⟨b, o, none⟩) l.length cap, .int .i64 mem, .int .i64 st])] _ from by assumption).tail, hnx⟩
            case measure => simp [intOf]; omega
    · have HF := Lib.hid (Img.nested_false (l := l) (k := k) fun j hj => hn.out j (by omega) hj)
      clear hn hcell
      go_wp2
      go_ret
      exact ⟨by rw [HF.out]; rfl, hS.1⟩
end Go.Proofs.Yteonkfdmkgjpaaa
