/- Contracts of layer 23: nested, regions, fault, Check. -/
import Derived.Test.YteonkfdmkgjpaaaImgW2
import Derived.Test.YteonkfdmkgjpaaaImgPure2
import Derived.Test.YteonkfdmkgjpaaaCode2
import Derived.Test.YteonkfdmkgjpaaaCode
import Derived.Deep.RegionHeld3
import Derived.Deep.DeepCutAuto
import Derived.BigQuiet
import Derived.Deep.QuietTactic
namespace Go.Proofs.Yteonkfdmkgjpaaa
open Go.RowKit
set_option linter.unusedVariables false
set_option linter.unusedSimpArgs false

set_option maxHeartbeats 8000000 in
theorem regions_any (l : List Ins) (A : Option Addr) (cap : Nat) (mem st : Int) (w : World) (hn0 : l.length ≤ 65536) (hc : CodeAt w A l) :
    Calls Try.prog 49 #[.agg #[.slice A l.length cap, .int .i64 mem, .int .i64 st]] w fun e w' => ∃ g, e = .returned (.slice (some ⟨g, 0, none⟩) l.length l.length) ∧ w.heap.size ≤ g ∧ Below w.heap.size w w' ∧ Blk w' g 3 (arr (Img.region l) l.length) := by
  have hmk := fun wx => run_make_ints wx l.length (by omega)
  go_enter Try.func49, Try.ntmps49
  go_wp2
  have hS := ((St.start w).alloc #[.slice A l.length cap, .int .i64 mem, .int .i64 st] 24).alloc (arr (fun _ => 0) l.length) 3
  simp only [World.size_alloc] at hS
  generalize ((w.alloc (.cells #[.slice A l.length cap, .int .i64 mem, .int .i64 st] 24)).alloc (.cells (arr (fun _ => 0) l.length) 3)) = w1 at *
  clear hmk
  go_loopw [16] (fun s wr => ∃ i : Nat, i ≤ l.length ∧ s = .int .i64 i ∧ St w [(w.heap.size + 1, 3, arr (fun k => if k < i then -1 else 0) l.length), (w.heap.size, 24, #[.slice A l.length cap, .int .i64 mem, .int .i64 st])] wr) (fun s _ => l.length - (intOf s).toNat)
  case atStart => exact ⟨0, Nat.zero_le _, rfl, by simpa using hS⟩
  case round =>
    clear hS
    obtain ⟨i, hi, rfl, hS⟩ := hrel
    have hA := (St.arrCells (w0 := w) (L := []) hS.b1).1
    have hF := (St.arrCells (w0 := w) (L := []) hS.b1).2
    by_cases hil : i < l.length
    · have hci := hA i hil
      have hfi := hF i
      clear hA hF
      go_wp2
      go_roundw
      case rel => 
        refine ⟨i + 1, hil, by go_num, ?_⟩
        have h2 := hS.set1 (by omega) (by intro y hy; simp at hy; subst hy; simp) i (.int .i64 (-1))
        rw [arr_set hil, arr_congr (fun k _ => fill_neg i k)] at h2
        exact h2
      case measure => simp [intOf]; omega
    · obtain rfl : i = l.length := by omega
      rw [arr_congr (fun k hk => fill_neg_all hk l)] at hS
      clear hA hF hi hil
      obtain ⟨i0, i1, i2, -⟩ := Blk.cells3 hS.b2
      go_wp2
      obtain ⟨g, hg⟩ : ∃ g, g = w.heap.size + 1 := ⟨_, rfl⟩
      rw [← hg] at hS ⊢
      have hgl : w.heap.size < g := by omega
      clear hg
      obtain ⟨wo, rfl⟩ : ∃ wo : World, wo = wr := ⟨_, rfl⟩
      go_loopw [26] (fun s wr => ∃ i : Nat, i ≤ l.length ∧ s = .int .i64 i ∧ St w [(g, 3, arr (Img.regU l i) l.length), (w.heap.size, 24, #[.slice A l.length cap, .int .i64 mem, .int .i64 st])] wr) (fun s _ => l.length - (intOf s).toNat)
      case atStart => exact ⟨0, Nat.zero_le _, rfl, hS⟩
      case round =>
        clear hS i0 i1 i2
        obtain ⟨i, hi, rfl, hS⟩ := hrel
        obtain ⟨i0, i1, i2, -⟩ := Blk.cells3 hS.b2
        by_cases hil : i < l.length
        · obtain ⟨b, o, rfl, hcB⟩ := hc (by omega)
          obtain ⟨i0, i1, i2, -⟩ := Blk.cells3 hS.b2
          have hcW := CodeB.after hS.1 hcB
          have hcell := hcW.2
          have hb := hcW.1
          clear hcW
          go_upto_region 10 with fail
          have hS2 := hS.alloc #[.int .u8 (Img.at_ l i).op, .int .i64 (Img.at_ l i).a, .int .i64 (Img.at_ l i).b, .int .i64 (Img.at_ l i).c, .int .i64 (Img.at_ l i).d] 38
          have hgx : g < wr.heap.size := hS.b1.lt
          generalize (wr.alloc (.cells #[.int .u8 (Img.at_ l i).op, .int .i64 (Img.at_ l i).a, .int .i64 (Img.at_ l i).b, .int .i64 (Img.at_ l i).c, .int .i64 (Img.at_ l i).d] 38)) = w3 at *
          generalize wr.heap.size = gx at *
          clear hcell hb i0 i1 i2 hS
          obtain ⟨x0, x1, x2, x3, x4, -⟩ := Blk.cells5 hS2.b1
          obtain ⟨i0, i1, i2, -⟩ := Blk.cells3 hS2.b3
          cases hp : Img.partner l i with
          | none =>
            have HPC := Lib.hid (show ∀ wx, CodeB wx b o l → Calls Try.prog 27 #[.agg #[.slice (some ⟨b, o, none⟩) l.length cap, .int .i64 mem, .int .i64 st], .int .i64 i] wx fun e w' => e = .returned (.tuple #[.int .i64 0, .bool false]) ∧ Below wx.heap.size wx w' from fun wx h => by
            have := partner_in l b o cap mem st i wx (by omega) h
            rw [hp] at this
            exact this)
            have hfn := Lib.hid (fun (q : Nat) (_ : q < l.length) => Img.covers_none (k := q) hp)
            clear hp
            go_wp2_with (first | (go_at_call 27; refine (HPC.out _ (CodeB.after (show St w _ _ from by assumption).1 hcB)).mono ?_; rintro e wn ⟨rfl, hB⟩; have hS := St.call hB (show St w _ _ from by assumption); obtain ⟨x0, x1, x2, x3, x4, -⟩ := Blk.cells5 hS.b1; obtain ⟨i0, i1, i2, -⟩ := Blk.cells3 hS.b3))
            go_roundw
            case rel => exact ⟨i + 1, hil, by go_num, by
              have h := (show St w [(gx, 38, #[.int .u8 (Img.at_ l i).op, .int .i64 (Img.at_ l i).a, .int .i64 (Img.at_ l i).b, .int .i64 (Img.at_ l i).c, .int .i64 (Img.at_ l i).d]), (g, 3, arr (Img.regU l i) l.length), (w.heap.size, 24, #[.slice (some ⟨b, o, none⟩) l.length cap, .int .i64 mem, .int .i64 st])] _ from by assumption).tail
              rw [arr_congr (fun q hq => fill_none (hfn.out q hq))] at h
              exact h⟩
            case measure => simp [intOf]; omega
          | some pe =>
            have HPC := Lib.hid (show ∀ wx, CodeB wx b o l → Calls Try.prog 27 #[.agg #[.slice (some ⟨b, o, none⟩) l.length cap, .int .i64 mem, .int .i64 st], .int .i64 i] wx fun e w' => e = .returned (.tuple #[.int .i64 pe, .bool true]) ∧ Below wx.heap.size wx w' from fun wx h => by
            have := partner_in l b o cap mem st i wx (by omega) h
            rw [hp] at this
            exact this)
            have hpl := (Img.partner_lt hp).2
            by_cases q1 : (Img.at_ l i).op = 32
            · have o1 : ((Img.at_ l i).op == 32) = true := beq_iff_eq.2 q1
              have hfe := Lib.hid (fun (q : Nat) => fill_end (q := q) (l := l) (i := i) (e := pe) (by simp [Img.isS, q1]) hp)
              have hie := Lib.hid (Img.start_lt hp q1)
              clear hp q1
              go_wp2_with (first | (go_at_call 27; refine (HPC.out _ (CodeB.after (show St w _ _ from by assumption).1 hcB)).mono ?_; rintro e wn ⟨rfl, hB⟩; have hS := St.call hB (show St w _ _ from by assumption); obtain ⟨x0, x1, x2, x3, x4, -⟩ := Blk.cells5 hS.b1; obtain ⟨i0, i1, i2, -⟩ := Blk.cells3 hS.b3))
              have hS3 := (show St w [(gx, 38, #[.int .u8 (Img.at_ l i).op, .int .i64 (Img.at_ l i).a, .int .i64 (Img.at_ l i).b, .int .i64 (Img.at_ l i).c, .int .i64 (Img.at_ l i).d]), (g, 3, arr (Img.regU l i) l.length), (w.heap.size, 24, #[.slice (some ⟨b, o, none⟩) l.length cap, .int .i64 mem, .int .i64 st])] wn from by assumption)
              go_loopw [9] (fun s wq => ∃ m : Nat, i ≤ m ∧ m ≤ pe + 1 ∧ s = .int .i64 m ∧ St w [(gx, 38, #[.int .u8 (Img.at_ l i).op, .int .i64 (Img.at_ l i).a, .int .i64 (Img.at_ l i).b, .int .i64 (Img.at_ l i).c, .int .i64 (Img.at_ l i).d]), (g, 3, arr (fun q => if i ≤ q ∧ q < m then (i : Int) else Img.regU l i q) l.length), (w.heap.size, 24, #[.slice (some ⟨b, o, none⟩) l.length cap, .int .i64 mem, .int .i64 st])] wq) (fun s _ => pe + 1 - (intOf s).toNat)
              case atStart => exact ⟨i, Nat.le_refl _, by have := hie.out; omega, rfl, by
                rw [arr_congr (f := fun q => if i ≤ q ∧ q < i then (i : Int) else Img.regU l i q) (g := Img.regU l i) (fun q _ => if_neg (by omega))]
                exact hS3⟩
              case round =>
                clear hS3 hS2 x0 x1 x2 x3 x4 i0 i1 i2
                obtain ⟨m, hm1, hm2, rfl, hS⟩ := hrel
                have hA := (St.arrCells (w0 := w) (L := []) hS.b2).1
                have hF := (St.arrCells (w0 := w) (L := []) hS.b2).2
                by_cases hml : m ≤ pe
                · have hcm := hA m (by omega)
                  have hfm := hF m
                  have o2 : decide (m ≤ pe) = true := decide_eq_true hml
                  clear hA hF
                  go_wp2
                  go_roundw
                  case rel =>
                    refine ⟨m + 1, by omega, by omega, by go_num, ?_⟩
                    have h2 := (hS.swap.set1 (by omega) (by intro y hy; simp at hy; rcases hy with rfl | rfl <;> simp <;> omega) m (.int .i64 (i : Int))).swap
                    rw [arr_set (by omega), arr_congr (fun q _ => fill_step l i m q hm1)] at h2
                    exact h2
                  case measure => simp [intOf]; omega
                · obtain rfl : m = pe + 1 := by omega
                  have o2 : decide (pe + 1 ≤ pe) = false := decide_eq_false (by omega)
                  rw [arr_congr (fun q _ => hfe.out q)] at hS
                  clear hA hF
                  go_wp2
                  go_roundw
                  case rel => exact ⟨i + 1, hil, by go_num, hS.tail⟩
                  case measure => simp [intOf]; omega
            · have o1 : ((Img.at_ l i).op == 32) = false := beq_eq_false_iff_ne.2 q1
              have hfn := Lib.hid (fun (q : Nat) (_ : q < l.length) => show Img.covers l i q = false from by simp [Img.covers, Img.isS, q1])
              clear hp q1
              go_wp2_with (first | (go_at_call 27; refine (HPC.out _ (CodeB.after (show St w _ _ from by assumption).1 hcB)).mono ?_; rintro e wn ⟨rfl, hB⟩; have hS := St.call hB (show St w _ _ from by assumption); obtain ⟨x0, x1, x2, x3, x4, -⟩ := Blk.cells5 hS.b1; obtain ⟨i0, i1, i2, -⟩ := Blk.cells3 hS.b3))
              go_roundw
              case rel => exact ⟨i + 1, hil, by go_num, by
                have h := (show St w [(gx, 38, #[.int .u8 (Img.at_ l i).op, .int .i64 (Img.at_ l i).a, .int .i64 (Img.at_ l i).b, .int .i64 (Img.at_ l i).c, .int .i64 (Img.at_ l i).d]), (g, 3, arr (Img.regU l i) l.length), (w.heap.size, 24, #[.slice (some ⟨b, o, none⟩) l.length cap, .int .i64 mem, .int .i64 st])] _ from by assumption).tail
                rw [arr_congr (fun q hq => fill_none (hfn.out q hq))] at h
                exact h⟩
              case measure => simp [intOf]; omega
        · obtain rfl : i = l.length := by omega
          clear hi hil
          obtain ⟨i0, i1, i2, -⟩ := Blk.cells3 hS.b2
          go_wp2
          go_ret
          exact ⟨g, rfl, by omega, hS.1, hS.b1⟩
end Go.Proofs.Yteonkfdmkgjpaaa
