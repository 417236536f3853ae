/- The walks of the laws of layer 23: ImageMirror. -/
import Derived.Test.YteonkfdmkgjpaaaImgL3
import Derived.Test.YteonkfdmkgjpaaaImgPure6
import Derived.Deep.RegionHeld3
import Derived.Deep.DeepCutAuto
import Derived.BigQuiet
import Derived.Deep.QuietTactic
import Derived.BigRegion
import Derived.Deep.CutBlock
namespace Go.Proofs.Yteonkfdmkgjpaaa
open Go.RowKit
set_option linter.unusedVariables false
set_option linter.unusedSimpArgs false
theorem procs_ex (l : List Ins) (A : Option Addr) (n cap : Nat) (mem st : Int) (hn : l.length = n) (hn0 : l.length ≤ 65536) (q : Nat) (hq : (Img.starts l).length = q) (w : World) (hc : CodeAt w A l) :
    Calls Try.prog 31 #[.agg #[.slice A n cap, .int .i64 mem, .int .i64 st]] w fun e w' => ∃ A' cap', e = .returned (.slice A' q cap') ∧ Below w.heap.size w w' := by
  subst hn hq
  refine (procs_any l A cap mem st w hn0 hc).mono ?_
  rintro e w' ⟨A', cap', rfl, hB, -⟩
  refine ⟨A', cap', ?_, hB⟩
  rw [show (Img.procsU l l.length).length = (Img.starts l).length from by unfold Img.procsU Img.starts; rw [List.length_map]]
theorem target_ex (y : Ins) (t : Int) (b : Bool) (ht : Img.tg y = t) (hb : Img.has y = b) (w : World) :
    Calls Try.prog 33 #[.agg #[.int .u8 (y).op, .int .i64 (y).a, .int .i64 (y).b, .int .i64 (y).c, .int .i64 (y).d]] w fun e w' => e = .returned (.tuple #[.int .i64 t, .bool b]) ∧ Below w.heap.size w w' := by
  subst ht hb
  exact target2_any _ _ _ _ _ w
theorem inverse_ex (x d : Ins) (h : Img.inv x = d) (w : World) :
    Calls Try.prog 32 #[.agg #[.int .u8 (x).op, .int .i64 (x).a, .int .i64 (x).b, .int .i64 (x).c, .int .i64 (x).d]] w fun e w' => e = .returned (.agg #[.int .u8 (d).op, .int .i64 (d).a, .int .i64 (d).b, .int .i64 (d).c, .int .i64 (d).d]) ∧ Below w.heap.size w w' := by
  subst h
  exact inverse_any _ _ _ _ _ w
theorem retarget_ex (x d : Ins) (t : Int) (h : Img.ret x t = d) (w : World) :
    Calls Try.prog 34 #[.agg #[.int .u8 (x).op, .int .i64 (x).a, .int .i64 (x).b, .int .i64 (x).c, .int .i64 (x).d], .int .i64 t] w fun e w' => e = .returned (.agg #[.int .u8 (d).op, .int .i64 (d).a, .int .i64 (d).b, .int .i64 (d).c, .int .i64 (d).d]) ∧ Below w.heap.size w w' := by
  subst h
  exact retarget_any _ _ _ _ _ _ w

set_option maxHeartbeats 8000000 in
set_option maxRecDepth 100000 in
theorem imageMirror_walk (l : List Ins) (A : Option Addr) (cap : Nat) (mem st : Int) (w : World) (hA : CodeAt w A l) (hok : InsOk l) (hml : l.length ≤ maxLen) :
    Calls Try.prog 9 #[.agg #[.slice A l.length cap, .int .i64 mem, .int .i64 st]] w fun e w' => e = .returned (.bool true) ∧ Below w.heap.size w w' := by
  by_cases h80 : 80 < l.length
  · have HG := Lib.hid (fun wx => imgGreat_any l A cap mem st wx)
    rw [decide_eq_true h80] at HG
    have hS : Sx w [] [codeF A l] w := (Sx.add (f := codeF A l) (hA) (Sx.start (F := []) w (fun _ h => by cases h)))
    have hc : True := trivial
    go_enter Try.func9, Try.ntmps9
    clear h80
    go_wp2_with (first | (go_at_call 18; apply calls_abs (w0 := w); (repeat (first | with_reducible apply Sx.alloc | with_reducible apply Sx.drew | with_reducible apply Sx.drewN | with_reducible exact hS)); intro wx hS2; clear hS; have hS := hS2; clear hS2; (try simp only [World.size_alloc, World.size_drew] at hS); refine (imgAwake_any _).mono ?_; rintro e wn ⟨rfl, hB⟩; replace hS := Sx.call hB hS; clear hB; clear hc; have hc := hS.cellsL; simp only [CellsL, CellsF, Nat.zero_add, Nat.reduceAdd, and_true, true_and] at hc) | (go_at_call 19; apply calls_abs (w0 := w); (repeat (first | with_reducible apply Sx.alloc | with_reducible apply Sx.drew | with_reducible apply Sx.drewN | with_reducible exact hS)); intro wx hS2; clear hS; have hS := hS2; clear hS2; (try simp only [World.size_alloc, World.size_drew] at hS); refine (HG.out _).mono ?_; rintro e wn ⟨rfl, hB⟩; replace hS := Sx.call hB hS; clear hB; clear hc; have hc := hS.cellsL; simp only [CellsL, CellsF, Nat.zero_add, Nat.reduceAdd, and_true, true_and] at hc))
    go_ret
    exact ⟨rfl, hS.below⟩
  have HG := Lib.hid (fun wx => imgGreat_any l A cap mem st wx)
  rw [decide_eq_false h80] at HG
  have hn0 : l.length ≤ 65536 := by omega
  cases hv : Img.valid l mem st
  · have HV := Lib.hid (fun wx h => imgValid_any l A cap mem st wx h)
    rw [hv] at HV
    have hS : Sx w [] [codeF A l] w := (Sx.add (f := codeF A l) (hA) (Sx.start (F := []) w (fun _ h => by cases h)))
    have hc : True := trivial
    go_enter Try.func9, Try.ntmps9
    clear h80 hv
    go_wp2_with (first | (go_at_call 18; apply calls_abs (w0 := w); (repeat (first | with_reducible apply Sx.alloc | with_reducible apply Sx.drew | with_reducible apply Sx.drewN | with_reducible exact hS)); intro wx hS2; clear hS; have hS := hS2; clear hS2; (try simp only [World.size_alloc, World.size_drew] at hS); refine (imgAwake_any _).mono ?_; rintro e wn ⟨rfl, hB⟩; replace hS := Sx.call hB hS; clear hB; clear hc; have hc := hS.cellsL; simp only [CellsL, CellsF, Nat.zero_add, Nat.reduceAdd, and_true, true_and] at hc) | (go_at_call 19; apply calls_abs (w0 := w); (repeat (first | with_reducible apply Sx.alloc | with_reducible apply Sx.drew | with_reducible apply Sx.drewN | with_reducible exact hS)); intro wx hS2; clear hS; have hS := hS2; clear hS2; (try simp only [World.size_alloc, World.size_drew] at hS); refine (HG.out _).mono ?_; rintro e wn ⟨rfl, hB⟩; replace hS := Sx.call hB hS; clear hB; clear hc; have hc := hS.cellsL; simp only [CellsL, CellsF, Nat.zero_add, Nat.reduceAdd, and_true, true_and] at hc) | (go_at_call 25; apply calls_abs (w0 := w); (repeat (first | with_reducible apply Sx.alloc | with_reducible apply Sx.drew | with_reducible apply Sx.drewN | with_reducible exact hS)); intro wx hS2; clear hS; have hS := hS2; clear hS2; (try simp only [World.size_alloc, World.size_drew] at hS); refine (HV.out _ hS.f1).mono ?_; rintro e wn ⟨rfl, hB⟩; replace hS := Sx.call hB hS; clear hB; clear hc; have hc := hS.cellsL; simp only [CellsL, CellsF, Nat.zero_add, Nat.reduceAdd, and_true, true_and] at hc))
    go_ret
    exact ⟨rfl, hS.below⟩
  have HV := Lib.hid (fun wx h => imgValid_any l A cap mem st wx h)
  rw [hv] at HV
  have hOk := Img.valid_ok hv
  have HI := Lib.hid (fun wx h => inv_ex l (Img.invert l) l.length cap mem st rfl hn0 hv rfl A wx h)
  have HQ := Lib.hid (fun wx h => procs_ex l A l.length cap mem st rfl hn0 (Img.starts l).length rfl wx h)
  have HQ2 := Lib.hid (fun g wx h => procs_ex (Img.invert l) (some ⟨g, 0, none⟩) l.length l.length mem st (Img.inv_length l) (by rw [Img.inv_length]; exact hn0) (Img.starts l).length hOk.starts_mirror wx h)
  generalize (Img.starts l).length = qn at *
  have hS : Sx w [] [codeF A l] w := (Sx.add (f := codeF A l) (hA) (Sx.start (F := []) w (fun _ h => by cases h)))
  have hc : True := trivial
  have h80 : l.length ≤ 80 := by omega
  clear hv
  go_enter Try.func9, Try.ntmps9
  go_upto_region 5 with (first | (go_at_call 18; apply calls_abs (w0 := w); (repeat (first | with_reducible apply Sx.alloc | with_reducible apply Sx.drew | with_reducible apply Sx.drewN | with_reducible exact hS)); intro wx hS2; clear hS; have hS := hS2; clear hS2; (try simp only [World.size_alloc, World.size_drew] at hS); refine (imgAwake_any _).mono ?_; rintro e wn ⟨rfl, hB⟩; replace hS := Sx.call hB hS; clear hB; clear hc; have hc := hS.cellsL; simp only [CellsL, CellsF, Nat.zero_add, Nat.reduceAdd, and_true, true_and] at hc) | (go_at_call 19; apply calls_abs (w0 := w); (repeat (first | with_reducible apply Sx.alloc | with_reducible apply Sx.drew | with_reducible apply Sx.drewN | with_reducible exact hS)); intro wx hS2; clear hS; have hS := hS2; clear hS2; (try simp only [World.size_alloc, World.size_drew] at hS); refine (HG.out _).mono ?_; rintro e wn ⟨rfl, hB⟩; replace hS := Sx.call hB hS; clear hB; clear hc; have hc := hS.cellsL; simp only [CellsL, CellsF, Nat.zero_add, Nat.reduceAdd, and_true, true_and] at hc) | (go_at_call 25; apply calls_abs (w0 := w); (repeat (first | with_reducible apply Sx.alloc | with_reducible apply Sx.drew | with_reducible apply Sx.drewN | with_reducible exact hS)); intro wx hS2; clear hS; have hS := hS2; clear hS2; (try simp only [World.size_alloc, World.size_drew] at hS); refine (HV.out _ hS.f1).mono ?_; rintro e wn ⟨rfl, hB⟩; replace hS := Sx.call hB hS; clear hB; clear hc; have hc := hS.cellsL; simp only [CellsL, CellsF, Nat.zero_add, Nat.reduceAdd, and_true, true_and] at hc))
  go_upto_region 7 with (first | (go_at_call 20; apply calls_abs (w0 := w); (repeat (first | with_reducible apply Sx.alloc | with_reducible apply Sx.drew | with_reducible apply Sx.drewN | with_reducible exact hS)); intro wx hS2; clear hS; have hS := hS2; clear hS2; (try simp only [World.size_alloc, World.size_drew] at hS); refine (HI.out _ hS.f1).mono ?_; rintro e wn ⟨g1, rfl, hB, h1⟩; replace hS := Sx.callF (f := codeF (some ⟨g1, 0, none⟩) (Img.invert l)) hB (h1.at_) hS; clear hB; clear hc; have hc := hS.cellsL; simp only [CellsL, CellsF, Nat.zero_add, Nat.reduceAdd, and_true, true_and] at hc))
  apply wp_abs (w0 := w)
  · (repeat (first | with_reducible apply Sx.alloc | with_reducible apply Sx.drew | with_reducible apply Sx.drewN | with_reducible exact hS))
  intro wx hS2; clear hS; have hS := hS2; clear hS2; (try simp only [World.size_alloc, World.size_drew] at hS)
  clear hc; have hc := hS.cellsL; simp only [CellsL, CellsF, Nat.zero_add, Nat.reduceAdd, and_true, true_and] at hc
  generalize wn.heap.size = g3 at *
  have HK : ∀ wx, Sx w [(g3, 24, #[.slice (some ⟨g1, 0, none⟩) l.length l.length, .int .i64 mem, .int .i64 st]), (w.heap.size, 24, #[.slice A l.length cap, .int .i64 mem, .int .i64 st])] [codeF (some ⟨g1, 0, none⟩) (Img.invert l), codeF A l] wx → (wx.cell? ⟨g3, 0, none⟩ = some (Value.slice (some ⟨g1, 0, none⟩) l.length l.length) ∧ wx.cell? ⟨g3, 1, none⟩ = some (Value.int .i64 mem) ∧ wx.cell? ⟨g3, 2, none⟩ = some (Value.int .i64 st) ∧ wx.cell? ⟨w.heap.size, 0, none⟩ = some (Value.slice A l.length cap) ∧ wx.cell? ⟨w.heap.size, 1, none⟩ = some (Value.int .i64 mem) ∧ wx.cell? ⟨w.heap.size, 2, none⟩ = some (Value.int .i64 st) ∧ Sx w [(g3, 24, #[.slice (some ⟨g1, 0, none⟩) l.length l.length, .int .i64 mem, .int .i64 st]), (w.heap.size, 24, #[.slice A l.length cap, .int .i64 mem, .int .i64 st])] [codeF (some ⟨g1, 0, none⟩) (Img.invert l), codeF A l] wx) := fun wx h => by
    have c := h.cellsL
    simp only [CellsL, CellsF, Nat.zero_add, Nat.reduceAdd, and_true, true_and] at c
    simp [c, h]
  have HK2 := Lib.hid HK
  have HKO := Lib.hid (fun wx (h : wx.cell? ⟨g3, 0, none⟩ = some (Value.slice (some ⟨g1, 0, none⟩) l.length l.length) ∧ wx.cell? ⟨g3, 1, none⟩ = some (Value.int .i64 mem) ∧ wx.cell? ⟨g3, 2, none⟩ = some (Value.int .i64 st) ∧ wx.cell? ⟨w.heap.size, 0, none⟩ = some (Value.slice A l.length cap) ∧ wx.cell? ⟨w.heap.size, 1, none⟩ = some (Value.int .i64 mem) ∧ wx.cell? ⟨w.heap.size, 2, none⟩ = some (Value.int .i64 st) ∧ Sx w [(g3, 24, #[.slice (some ⟨g1, 0, none⟩) l.length l.length, .int .i64 mem, .int .i64 st]), (w.heap.size, 24, #[.slice A l.length cap, .int .i64 mem, .int .i64 st])] [codeF (some ⟨g1, 0, none⟩) (Img.invert l), codeF A l] wx) => (show Sx w [(g3, 24, #[.slice (some ⟨g1, 0, none⟩) l.length l.length, .int .i64 mem, .int .i64 st]), (w.heap.size, 24, #[.slice A l.length cap, .int .i64 mem, .int .i64 st])] [codeF (some ⟨g1, 0, none⟩) (Img.invert l), codeF A l] wx from h.2.2.2.2.2.2))
  clear HK
  go_cut [49] (fun s wx => s = .bool false ∧ Sx w [(g3, 24, #[.slice (some ⟨g1, 0, none⟩) l.length l.length, .int .i64 mem, .int .i64 st]), (w.heap.size, 24, #[.slice A l.length cap, .int .i64 mem, .int .i64 st])] [codeF (some ⟨g1, 0, none⟩) (Img.invert l), codeF A l] wx)
  case first =>
    go_region_held3 (fun wx => wx.cell? ⟨g3, 0, none⟩ = some (Value.slice (some ⟨g1, 0, none⟩) l.length l.length) ∧ wx.cell? ⟨g3, 1, none⟩ = some (Value.int .i64 mem) ∧ wx.cell? ⟨g3, 2, none⟩ = some (Value.int .i64 st) ∧ wx.cell? ⟨w.heap.size, 0, none⟩ = some (Value.slice A l.length cap) ∧ wx.cell? ⟨w.heap.size, 1, none⟩ = some (Value.int .i64 mem) ∧ wx.cell? ⟨w.heap.size, 2, none⟩ = some (Value.int .i64 st) ∧ Sx w [(g3, 24, #[.slice (some ⟨g1, 0, none⟩) l.length l.length, .int .i64 mem, .int .i64 st]), (w.heap.size, 24, #[.slice A l.length cap, .int .i64 mem, .int .i64 st])] [codeF (some ⟨g1, 0, none⟩) (Img.invert l), codeF A l] wx) (first | exact HK2.out _ (Sx.drew (by assumption)) | exact HK2.out _ (by assumption)) (first | (go_at_call 31; have hS9 : Sx w [(g3, 24, #[.slice (some ⟨g1, 0, none⟩) l.length l.length, .int .i64 mem, .int .i64 st]), (w.heap.size, 24, #[.slice A l.length cap, .int .i64 mem, .int .i64 st])] [codeF (some ⟨g1, 0, none⟩) (Img.invert l), codeF A l] _ := (HKO.out _ (by assumption)); with_reducible refine (HQ2.out _ _ hS9.f1).mono ?_; rintro e wn ⟨Aq, cq, rfl, hB⟩; have hS8 := Sx.call hB hS9; clear hB) | (go_at_call 31; have hS9 : Sx w [(g3, 24, #[.slice (some ⟨g1, 0, none⟩) l.length l.length, .int .i64 mem, .int .i64 st]), (w.heap.size, 24, #[.slice A l.length cap, .int .i64 mem, .int .i64 st])] [codeF (some ⟨g1, 0, none⟩) (Img.invert l), codeF A l] _ := (HKO.out _ (by assumption)); with_reducible refine (HQ.out _ hS9.f2).mono ?_; rintro e wn ⟨Aq, cq, rfl, hB⟩; have hS8 := Sx.call hB hS9; clear hB))
    all_goals go_wp2_with fail
    all_goals go_meet
    all_goals exact ⟨rfl, hS8⟩
  case rest =>
    obtain ⟨rfl, hS9⟩ := hcut
    clear hS hc HK2 HKO HQ HQ2
    have hS := hS9
    clear hS9
    have hc := hS.cellsL
    simp only [CellsL, CellsF, Nat.zero_add, Nat.reduceAdd, and_true, true_and] at hc
    go_wp2
    go_loopw [53] (fun s wr => ∃ k : Nat, k ≤ l.length ∧ s = .int .i64 k ∧ Sx w [(g3, 24, #[.slice (some ⟨g1, 0, none⟩) l.length l.length, .int .i64 mem, .int .i64 st]), (w.heap.size, 24, #[.slice A l.length cap, .int .i64 mem, .int .i64 st])] [codeF (some ⟨g1, 0, none⟩) (Img.invert l), codeF A l] wr) (fun s _ => l.length - (intOf s).toNat)
    case atStart => exact ⟨0, Nat.zero_le _, rfl, hS⟩
    case round =>
      clear hS hc
      obtain ⟨k, hk, rfl, hS⟩ := hrel
      have hc := hS.cellsL
      simp only [CellsL, CellsF, Nat.zero_add, Nat.reduceAdd, and_true, true_and] at hc
      by_cases hlt : k < l.length
      · have hl0 := hS.1.b1.lt
        have hl1 := hS.1.b2.lt
        have hp1 := Img.Ok.partner_mirror hOk hlt
        obtain ⟨b, o, rfl⟩ := hA.some (by omega)
        obtain ⟨m, hm⟩ : ∃ m : Nat, l.length = k + 1 + m := ⟨l.length - 1 - k, by omega⟩
        have hml : m < (Img.invert l).length := by rw [Img.inv_length]; omega
        have em : l.length - 1 - k = m := by omega
        have e1 : ((l.length : Int) - 1 - (k : Int)) = (m : Int) := by omega
        have hy0 : Img.at_ (Img.invert l) m = Img.invAt l k := by rw [← em]; exact Img.inv_at' l hlt
        rw [em] at hp1
        obtain ⟨hb, x0, x1, x2, x3, x4⟩ := CodeAt.cells hS.f2 hlt
        have Hcy := Lib.hid (fun wx (h : CodeAt wx (some ⟨g1, 0, none⟩) (Img.invert l)) => (by have h2 := CodeAt.cells h hml; simp only [Nat.zero_add] at h2; exact h2))
        have Hm := Lib.hid hm
        have Hhas : Hid (Img.has (Img.at_ (Img.invert l) m) = Img.has (Img.at_ l k)) := Lib.hid (by rw [hy0]; exact (Img.invAt_kinds l k).1)
        have Hyes : Hid (Img.has (Img.at_ l k) = true → Img.ret (Img.inv (Img.at_ l k)) (Img.tg (Img.at_ (Img.invert l) m)) = Img.at_ (Img.invert l) m) := Lib.hid (fun hh => by rw [hy0, Img.Ok.tg_mirror hOk hlt hh, Img.invAt_yes hh])
        have Hno : Hid (Img.has (Img.at_ l k) = false → Img.inv (Img.at_ l k) = Img.at_ (Img.invert l) m) := Lib.hid (fun hh => by rw [hy0, Img.invAt_no hh])
        clear hy0 em hm
        generalize hx : Img.at_ l k = x at *
        generalize hyy : Img.at_ (Img.invert l) m = y at *
        have hmn : m ≤ 80 := by have := Hm.out; omega
        have T1 : True := trivial
        have T2 : True := trivial
        have HPs : ∃ pv bv qv, Hid (∀ wx, CodeAt wx (some ⟨b, o, none⟩) l → Calls Try.prog 27 #[.agg #[.slice (some ⟨b, o, none⟩) l.length cap, .int .i64 mem, .int .i64 st], .int .i64 k] wx fun e w' => e = .returned (.tuple #[.int .i64 pv, .bool bv]) ∧ Below wx.heap.size wx w') ∧
            Hid (∀ wx, CodeAt wx (some ⟨g1, 0, none⟩) (Img.invert l) → Calls Try.prog 27 #[.agg #[.slice (some ⟨g1, 0, none⟩) l.length l.length, .int .i64 mem, .int .i64 st], .int .i64 m] wx fun e w' => e = .returned (.tuple #[.int .i64 qv, .bool bv]) ∧ Below wx.heap.size wx w') ∧ ((bv = true ∧ qv = (l.length : Int) - 1 - pv ∧ 0 ≤ pv ∧ pv ≤ 80) ∨ bv = false) := by
          cases hp : Img.partner l k with
          | some p =>
            rw [hp] at hp1
            have hpl := (Img.partner_lt hp).2
            refine ⟨p, true, (l.length : Int) - 1 - p, Lib.hid (fun wx h => partner_some_ex l _ l.length cap mem st rfl k p hp wx h), Lib.hid (fun wx h => ?_), .inl ⟨rfl, rfl, by omega, by omega⟩⟩
            have h2 := partner_some_ex (Img.invert l) (some ⟨g1, 0, none⟩) l.length l.length mem st (Img.inv_length l) m (l.length - 1 - p) (by simpa using hp1) wx h
            rwa [show ((l.length - 1 - p : Nat) : Int) = (l.length : Int) - 1 - p from by omega] at h2
          | none =>
            rw [hp] at hp1
            exact ⟨0, false, 0, Lib.hid (fun wx h => partner_none_ex l _ l.length cap mem st rfl k hlt hp wx h), Lib.hid (fun wx h => partner_none_ex (Img.invert l) (some ⟨g1, 0, none⟩) l.length l.length mem st (Img.inv_length l) m hml (by simpa using hp1) wx h), .inr rfl⟩
        obtain ⟨pv, bv, qv, HP1, HP2, hpq⟩ := HPs
        cases hh : Img.has x
        · have HI := Lib.hid (inverse_ex x y (Hno.out hh))
          have HT := Lib.hid (target_ex y (Img.tg y) false rfl (by rw [Hhas.out, hh]))
          generalize Img.tg y = t at *
          clear hh Hyes Hno Hhas hx hyy hp1
          rcases hpq with ⟨rfl, rfl, hp0, hp80⟩ | rfl
          all_goals
            go_upto_region 13 with (first | (go_at_call 32; apply calls_abs (w0 := w); (repeat (first | with_reducible apply Sx.alloc | with_reducible apply Sx.drew | with_reducible apply Sx.drewN | with_reducible exact hS)); intro wx hS2; clear hS; have hS := hS2; clear hS2; (try simp only [World.size_alloc, World.size_drew] at hS); refine (HI.out _).mono ?_; rintro e wn ⟨rfl, hB⟩; replace hS := Sx.call hB hS; clear hB; clear hc; have hc := hS.cellsL; simp only [CellsL, CellsF, Nat.zero_add, Nat.reduceAdd, and_true, true_and] at hc; obtain ⟨gd, hgd⟩ : ∃ gd, wn.heap.size = gd := ⟨_, rfl⟩; have n1 : wr.heap.size < gd := hgd ▸ hS.1.b1.lt; have n2 : g3 < gd := hgd ▸ hS.1.b2.lt; have n3 : w.heap.size < gd := hgd ▸ hS.1.b3.lt; have n4 : g1 < gd := hgd ▸ (Hcy.out _ hS.f1).1; have n5 : b < gd := hgd ▸ (CodeAt.cells hS.f2 hlt).1) | (go_at_call 33; apply calls_abs (w0 := w); (repeat (first | with_reducible apply Sx.alloc | with_reducible apply Sx.drew | with_reducible apply Sx.drewN | with_reducible exact hS)); intro wx hS2; clear hS; have hS := hS2; clear hS2; (try simp only [World.size_alloc, World.size_drew] at hS); refine (HT.out _).mono ?_; rintro e wn ⟨rfl, hB⟩; replace hS := Sx.call hB hS; clear hB; clear hc; have hc := hS.cellsL; simp only [CellsL, CellsF, Nat.zero_add, Nat.reduceAdd, and_true, true_and] at hc; simp only [hgd] at hS hc) | (go_at_call 34; apply calls_abs (w0 := w); (repeat (first | with_reducible apply Sx.alloc | with_reducible apply Sx.drew | with_reducible apply Sx.drewN | with_reducible exact hS)); intro wx hS2; clear hS; have hS := hS2; clear hS2; (try simp only [World.size_alloc, World.size_drew] at hS); refine (HR.out _).mono ?_; rintro e wn ⟨rfl, hB⟩; replace hS := Sx.call hB hS; clear hB; clear hc; have hc := hS.cellsL; simp only [CellsL, CellsF, Nat.zero_add, Nat.reduceAdd, and_true, true_and] at hc) | (go_at_call 27; have _t := T1; clear T1 _t; apply calls_abs (w0 := w); (repeat (first | with_reducible apply Sx.alloc | with_reducible apply Sx.drew | with_reducible apply Sx.drewN | with_reducible exact hS)); intro wx hS2; clear hS; have hS := hS2; clear hS2; (try simp only [World.size_alloc, World.size_drew] at hS); refine (HP1.out _ hS.f2).mono ?_; rintro e wn ⟨rfl, hB⟩; replace hS := Sx.call hB hS; clear hB; clear hc; have hc := hS.cellsL; simp only [CellsL, CellsF, Nat.zero_add, Nat.reduceAdd, and_true, true_and] at hc) | (go_at_call 27; have _t := T2; clear T2 _t; apply calls_abs (w0 := w); (repeat (first | with_reducible apply Sx.alloc | with_reducible apply Sx.drew | with_reducible apply Sx.drewN | with_reducible exact hS)); intro wx hS2; clear hS; have hS := hS2; clear hS2; (try simp only [World.size_alloc, World.size_drew] at hS); refine (HP2.out _ hS.f1).mono ?_; rintro e wn ⟨rfl, hB⟩; replace hS := Sx.call hB hS; clear hB; clear hc; have hc := hS.cellsL; simp only [CellsL, CellsF, Nat.zero_add, Nat.reduceAdd, and_true, true_and] at hc))
            obtain ⟨hb2, y0, y1, y2, y3, y4⟩ := Hcy.out _ hS.f1
            go_upto_region 16 with (first | (go_at_call 32; apply calls_abs (w0 := w); (repeat (first | with_reducible apply Sx.alloc | with_reducible apply Sx.drew | with_reducible apply Sx.drewN | with_reducible exact hS)); intro wx hS2; clear hS; have hS := hS2; clear hS2; (try simp only [World.size_alloc, World.size_drew] at hS); refine (HI.out _).mono ?_; rintro e wn ⟨rfl, hB⟩; replace hS := Sx.call hB hS; clear hB; clear hc; have hc := hS.cellsL; simp only [CellsL, CellsF, Nat.zero_add, Nat.reduceAdd, and_true, true_and] at hc; obtain ⟨gd, hgd⟩ : ∃ gd, wn.heap.size = gd := ⟨_, rfl⟩; have n1 : wr.heap.size < gd := hgd ▸ hS.1.b1.lt; have n2 : g3 < gd := hgd ▸ hS.1.b2.lt; have n3 : w.heap.size < gd := hgd ▸ hS.1.b3.lt; have n4 : g1 < gd := hgd ▸ (Hcy.out _ hS.f1).1; have n5 : b < gd := hgd ▸ (CodeAt.cells hS.f2 hlt).1) | (go_at_call 33; apply calls_abs (w0 := w); (repeat (first | with_reducible apply Sx.alloc | with_reducible apply Sx.drew | with_reducible apply Sx.drewN | with_reducible exact hS)); intro wx hS2; clear hS; have hS := hS2; clear hS2; (try simp only [World.size_alloc, World.size_drew] at hS); refine (HT.out _).mono ?_; rintro e wn ⟨rfl, hB⟩; replace hS := Sx.call hB hS; clear hB; clear hc; have hc := hS.cellsL; simp only [CellsL, CellsF, Nat.zero_add, Nat.reduceAdd, and_true, true_and] at hc; simp only [hgd] at hS hc) | (go_at_call 34; apply calls_abs (w0 := w); (repeat (first | with_reducible apply Sx.alloc | with_reducible apply Sx.drew | with_reducible apply Sx.drewN | with_reducible exact hS)); intro wx hS2; clear hS; have hS := hS2; clear hS2; (try simp only [World.size_alloc, World.size_drew] at hS); refine (HR.out _).mono ?_; rintro e wn ⟨rfl, hB⟩; replace hS := Sx.call hB hS; clear hB; clear hc; have hc := hS.cellsL; simp only [CellsL, CellsF, Nat.zero_add, Nat.reduceAdd, and_true, true_and] at hc) | (go_at_call 27; have _t := T1; clear T1 _t; apply calls_abs (w0 := w); (repeat (first | with_reducible apply Sx.alloc | with_reducible apply Sx.drew | with_reducible apply Sx.drewN | with_reducible exact hS)); intro wx hS2; clear hS; have hS := hS2; clear hS2; (try simp only [World.size_alloc, World.size_drew] at hS); refine (HP1.out _ hS.f2).mono ?_; rintro e wn ⟨rfl, hB⟩; replace hS := Sx.call hB hS; clear hB; clear hc; have hc := hS.cellsL; simp only [CellsL, CellsF, Nat.zero_add, Nat.reduceAdd, and_true, true_and] at hc) | (go_at_call 27; have _t := T2; clear T2 _t; apply calls_abs (w0 := w); (repeat (first | with_reducible apply Sx.alloc | with_reducible apply Sx.drew | with_reducible apply Sx.drewN | with_reducible exact hS)); intro wx hS2; clear hS; have hS := hS2; clear hS2; (try simp only [World.size_alloc, World.size_drew] at hS); refine (HP2.out _ hS.f1).mono ?_; rintro e wn ⟨rfl, hB⟩; replace hS := Sx.call hB hS; clear hB; clear hc; have hc := hS.cellsL; simp only [CellsL, CellsF, Nat.zero_add, Nat.reduceAdd, and_true, true_and] at hc))
            obtain ⟨hb2, y0, y1, y2, y3, y4⟩ := Hcy.out _ hS.f1
            have q1 : IntKind.i64.wrap ((l.length : Int) - 1) = (l.length : Int) - 1 := Go.IntWalk.i64_in _ (by omega)
            have q2 : IntKind.i64.wrap ((l.length : Int) - 1 - (k : Int)) = (m : Int) := by rw [e1]; exact Go.IntWalk.i64_in _ (by omega)
            have q3 : (m : Int) < (l.length : Int) := by omega
            have q4 : m < l.length := by omega
            go_quiet (fail)
            clear q1 q2 q3 q4
            go_wp2_with (first | (go_at_call 32; apply calls_abs (w0 := w); (repeat (first | with_reducible apply Sx.alloc | with_reducible apply Sx.drew | with_reducible apply Sx.drewN | with_reducible exact hS)); intro wx hS2; clear hS; have hS := hS2; clear hS2; (try simp only [World.size_alloc, World.size_drew] at hS); refine (HI.out _).mono ?_; rintro e wn ⟨rfl, hB⟩; replace hS := Sx.call hB hS; clear hB; clear hc; have hc := hS.cellsL; simp only [CellsL, CellsF, Nat.zero_add, Nat.reduceAdd, and_true, true_and] at hc; obtain ⟨gd, hgd⟩ : ∃ gd, wn.heap.size = gd := ⟨_, rfl⟩; have n1 : wr.heap.size < gd := hgd ▸ hS.1.b1.lt; have n2 : g3 < gd := hgd ▸ hS.1.b2.lt; have n3 : w.heap.size < gd := hgd ▸ hS.1.b3.lt; have n4 : g1 < gd := hgd ▸ (Hcy.out _ hS.f1).1; have n5 : b < gd := hgd ▸ (CodeAt.cells hS.f2 hlt).1) | (go_at_call 33; apply calls_abs (w0 := w); (repeat (first | with_reducible apply Sx.alloc | with_reducible apply Sx.drew | with_reducible apply Sx.drewN | with_reducible exact hS)); intro wx hS2; clear hS; have hS := hS2; clear hS2; (try simp only [World.size_alloc, World.size_drew] at hS); refine (HT.out _).mono ?_; rintro e wn ⟨rfl, hB⟩; replace hS := Sx.call hB hS; clear hB; clear hc; have hc := hS.cellsL; simp only [CellsL, CellsF, Nat.zero_add, Nat.reduceAdd, and_true, true_and] at hc; simp only [hgd] at hS hc) | (go_at_call 34; apply calls_abs (w0 := w); (repeat (first | with_reducible apply Sx.alloc | with_reducible apply Sx.drew | with_reducible apply Sx.drewN | with_reducible exact hS)); intro wx hS2; clear hS; have hS := hS2; clear hS2; (try simp only [World.size_alloc, World.size_drew] at hS); refine (HR.out _).mono ?_; rintro e wn ⟨rfl, hB⟩; replace hS := Sx.call hB hS; clear hB; clear hc; have hc := hS.cellsL; simp only [CellsL, CellsF, Nat.zero_add, Nat.reduceAdd, and_true, true_and] at hc) | (go_at_call 27; have _t := T1; clear T1 _t; apply calls_abs (w0 := w); (repeat (first | with_reducible apply Sx.alloc | with_reducible apply Sx.drew | with_reducible apply Sx.drewN | with_reducible exact hS)); intro wx hS2; clear hS; have hS := hS2; clear hS2; (try simp only [World.size_alloc, World.size_drew] at hS); refine (HP1.out _ hS.f2).mono ?_; rintro e wn ⟨rfl, hB⟩; replace hS := Sx.call hB hS; clear hB; clear hc; have hc := hS.cellsL; simp only [CellsL, CellsF, Nat.zero_add, Nat.reduceAdd, and_true, true_and] at hc) | (go_at_call 27; have _t := T2; clear T2 _t; apply calls_abs (w0 := w); (repeat (first | with_reducible apply Sx.alloc | with_reducible apply Sx.drew | with_reducible apply Sx.drewN | with_reducible exact hS)); intro wx hS2; clear hS; have hS := hS2; clear hS2; (try simp only [World.size_alloc, World.size_drew] at hS); refine (HP2.out _ hS.f1).mono ?_; rintro e wn ⟨rfl, hB⟩; replace hS := Sx.call hB hS; clear hB; clear hc; have hc := hS.cellsL; simp only [CellsL, CellsF, Nat.zero_add, Nat.reduceAdd, and_true, true_and] at hc))
            go_roundw
            case rel => exact ⟨k + 1, hlt, by go_num, hS.drop.drop⟩
            case measure => simp [intOf]; omega
        · obtain ⟨d, Hd⟩ : ∃ d, Hid (Img.inv x = d) := ⟨_, Lib.hid rfl⟩
          have HI := Lib.hid (inverse_ex x d Hd.out)
          have HT := Lib.hid (target_ex y (Img.tg y) true rfl (by rw [Hhas.out, hh]))
          have HRr := Hyes.out hh
          rw [Hd.out] at HRr
          have HR := Lib.hid (retarget_ex d y (Img.tg y) HRr)
          generalize Img.tg y = t at *
          clear hh Hyes Hno Hhas hx hyy hp1 HRr
          rcases hpq with ⟨rfl, rfl, hp0, hp80⟩ | rfl
          all_goals
            go_upto_region 13 with (first | (go_at_call 32; apply calls_abs (w0 := w); (repeat (first | with_reducible apply Sx.alloc | with_reducible apply Sx.drew | with_reducible apply Sx.drewN | with_reducible exact hS)); intro wx hS2; clear hS; have hS := hS2; clear hS2; (try simp only [World.size_alloc, World.size_drew] at hS); refine (HI.out _).mono ?_; rintro e wn ⟨rfl, hB⟩; replace hS := Sx.call hB hS; clear hB; clear hc; have hc := hS.cellsL; simp only [CellsL, CellsF, Nat.zero_add, Nat.reduceAdd, and_true, true_and] at hc; obtain ⟨gd, hgd⟩ : ∃ gd, wn.heap.size = gd := ⟨_, rfl⟩; have n1 : wr.heap.size < gd := hgd ▸ hS.1.b1.lt; have n2 : g3 < gd := hgd ▸ hS.1.b2.lt; have n3 : w.heap.size < gd := hgd ▸ hS.1.b3.lt; have n4 : g1 < gd := hgd ▸ (Hcy.out _ hS.f1).1; have n5 : b < gd := hgd ▸ (CodeAt.cells hS.f2 hlt).1) | (go_at_call 33; apply calls_abs (w0 := w); (repeat (first | with_reducible apply Sx.alloc | with_reducible apply Sx.drew | with_reducible apply Sx.drewN | with_reducible exact hS)); intro wx hS2; clear hS; have hS := hS2; clear hS2; (try simp only [World.size_alloc, World.size_drew] at hS); refine (HT.out _).mono ?_; rintro e wn ⟨rfl, hB⟩; replace hS := Sx.call hB hS; clear hB; clear hc; have hc := hS.cellsL; simp only [CellsL, CellsF, Nat.zero_add, Nat.reduceAdd, and_true, true_and] at hc; simp only [hgd] at hS hc) | (go_at_call 34; apply calls_abs (w0 := w); (repeat (first | with_reducible apply Sx.alloc | with_reducible apply Sx.drew | with_reducible apply Sx.drewN | with_reducible exact hS)); intro wx hS2; clear hS; have hS := hS2; clear hS2; (try simp only [World.size_alloc, World.size_drew] at hS); refine (HR.out _).mono ?_; rintro e wn ⟨rfl, hB⟩; replace hS := Sx.call hB hS; clear hB; clear hc; have hc := hS.cellsL; simp only [CellsL, CellsF, Nat.zero_add, Nat.reduceAdd, and_true, true_and] at hc) | (go_at_call 27; have _t := T1; clear T1 _t; apply calls_abs (w0 := w); (repeat (first | with_reducible apply Sx.alloc | with_reducible apply Sx.drew | with_reducible apply Sx.drewN | with_reducible exact hS)); intro wx hS2; clear hS; have hS := hS2; clear hS2; (try simp only [World.size_alloc, World.size_drew] at hS); refine (HP1.out _ hS.f2).mono ?_; rintro e wn ⟨rfl, hB⟩; replace hS := Sx.call hB hS; clear hB; clear hc; have hc := hS.cellsL; simp only [CellsL, CellsF, Nat.zero_add, Nat.reduceAdd, and_true, true_and] at hc) | (go_at_call 27; have _t := T2; clear T2 _t; apply calls_abs (w0 := w); (repeat (first | with_reducible apply Sx.alloc | with_reducible apply Sx.drew | with_reducible apply Sx.drewN | with_reducible exact hS)); intro wx hS2; clear hS; have hS := hS2; clear hS2; (try simp only [World.size_alloc, World.size_drew] at hS); refine (HP2.out _ hS.f1).mono ?_; rintro e wn ⟨rfl, hB⟩; replace hS := Sx.call hB hS; clear hB; clear hc; have hc := hS.cellsL; simp only [CellsL, CellsF, Nat.zero_add, Nat.reduceAdd, and_true, true_and] at hc))
            obtain ⟨hb2, y0, y1, y2, y3, y4⟩ := Hcy.out _ hS.f1
            go_upto_region 16 with (first | (go_at_call 32; apply calls_abs (w0 := w); (repeat (first | with_reducible apply Sx.alloc | with_reducible apply Sx.drew | with_reducible apply Sx.drewN | with_reducible exact hS)); intro wx hS2; clear hS; have hS := hS2; clear hS2; (try simp only [World.size_alloc, World.size_drew] at hS); refine (HI.out _).mono ?_; rintro e wn ⟨rfl, hB⟩; replace hS := Sx.call hB hS; clear hB; clear hc; have hc := hS.cellsL; simp only [CellsL, CellsF, Nat.zero_add, Nat.reduceAdd, and_true, true_and] at hc; obtain ⟨gd, hgd⟩ : ∃ gd, wn.heap.size = gd := ⟨_, rfl⟩; have n1 : wr.heap.size < gd := hgd ▸ hS.1.b1.lt; have n2 : g3 < gd := hgd ▸ hS.1.b2.lt; have n3 : w.heap.size < gd := hgd ▸ hS.1.b3.lt; have n4 : g1 < gd := hgd ▸ (Hcy.out _ hS.f1).1; have n5 : b < gd := hgd ▸ (CodeAt.cells hS.f2 hlt).1) | (go_at_call 33; apply calls_abs (w0 := w); (repeat (first | with_reducible apply Sx.alloc | with_reducible apply Sx.drew | with_reducible apply Sx.drewN | with_reducible exact hS)); intro wx hS2; clear hS; have hS := hS2; clear hS2; (try simp only [World.size_alloc, World.size_drew] at hS); refine (HT.out _).mono ?_; rintro e wn ⟨rfl, hB⟩; replace hS := Sx.call hB hS; clear hB; clear hc; have hc := hS.cellsL; simp only [CellsL, CellsF, Nat.zero_add, Nat.reduceAdd, and_true, true_and] at hc; simp only [hgd] at hS hc) | (go_at_call 34; apply calls_abs (w0 := w); (repeat (first | with_reducible apply Sx.alloc | with_reducible apply Sx.drew | with_reducible apply Sx.drewN | with_reducible exact hS)); intro wx hS2; clear hS; have hS := hS2; clear hS2; (try simp only [World.size_alloc, World.size_drew] at hS); refine (HR.out _).mono ?_; rintro e wn ⟨rfl, hB⟩; replace hS := Sx.call hB hS; clear hB; clear hc; have hc := hS.cellsL; simp only [CellsL, CellsF, Nat.zero_add, Nat.reduceAdd, and_true, true_and] at hc) | (go_at_call 27; have _t := T1; clear T1 _t; apply calls_abs (w0 := w); (repeat (first | with_reducible apply Sx.alloc | with_reducible apply Sx.drew | with_reducible apply Sx.drewN | with_reducible exact hS)); intro wx hS2; clear hS; have hS := hS2; clear hS2; (try simp only [World.size_alloc, World.size_drew] at hS); refine (HP1.out _ hS.f2).mono ?_; rintro e wn ⟨rfl, hB⟩; replace hS := Sx.call hB hS; clear hB; clear hc; have hc := hS.cellsL; simp only [CellsL, CellsF, Nat.zero_add, Nat.reduceAdd, and_true, true_and] at hc) | (go_at_call 27; have _t := T2; clear T2 _t; apply calls_abs (w0 := w); (repeat (first | with_reducible apply Sx.alloc | with_reducible apply Sx.drew | with_reducible apply Sx.drewN | with_reducible exact hS)); intro wx hS2; clear hS; have hS := hS2; clear hS2; (try simp only [World.size_alloc, World.size_drew] at hS); refine (HP2.out _ hS.f1).mono ?_; rintro e wn ⟨rfl, hB⟩; replace hS := Sx.call hB hS; clear hB; clear hc; have hc := hS.cellsL; simp only [CellsL, CellsF, Nat.zero_add, Nat.reduceAdd, and_true, true_and] at hc))
            have hS9 := hS.set5 (Nat.le_of_lt n3) (by intro z hz; simp only [List.mem_cons, List.not_mem_nil, or_false] at hz; rcases hz with rfl | rfl | rfl; exact Nat.ne_of_lt n1; exact Nat.ne_of_lt n2; exact Nat.ne_of_lt n3) (by intro f hf; simp only [List.mem_cons, List.not_mem_nil, or_false] at hf; rcases hf with rfl | rfl; exact far_code (Nat.ne_of_lt n4); exact far_code (Nat.ne_of_lt n5)) (.int .u8 y.op) (.int .i64 y.a) (.int .i64 y.b) (.int .i64 y.c) (.int .i64 y.d)
            refine wp_abs hS9 ?_
            intro wx hS2; clear hS; have hS := hS2; clear hS2; (try simp only [World.size_alloc, World.size_drew] at hS)
            clear hc; have hc := hS.cellsL; simp only [CellsL, CellsF, Nat.zero_add, Nat.reduceAdd, and_true, true_and] at hc
            obtain ⟨hb2, y0, y1, y2, y3, y4⟩ := Hcy.out _ hS.f1
            go_upto_region 16 with fail
            have q1 : IntKind.i64.wrap ((l.length : Int) - 1) = (l.length : Int) - 1 := Go.IntWalk.i64_in _ (by omega)
            have q2 : IntKind.i64.wrap ((l.length : Int) - 1 - (k : Int)) = (m : Int) := by rw [e1]; exact Go.IntWalk.i64_in _ (by omega)
            have q3 : (m : Int) < (l.length : Int) := by omega
            have q4 : m < l.length := by omega
            go_quiet (fail)
            clear q1 q2 q3 q4
            go_wp2_with (first | (go_at_call 32; apply calls_abs (w0 := w); (repeat (first | with_reducible apply Sx.alloc | with_reducible apply Sx.drew | with_reducible apply Sx.drewN | with_reducible exact hS)); intro wx hS2; clear hS; have hS := hS2; clear hS2; (try simp only [World.size_alloc, World.size_drew] at hS); refine (HI.out _).mono ?_; rintro e wn ⟨rfl, hB⟩; replace hS := Sx.call hB hS; clear hB; clear hc; have hc := hS.cellsL; simp only [CellsL, CellsF, Nat.zero_add, Nat.reduceAdd, and_true, true_and] at hc; obtain ⟨gd, hgd⟩ : ∃ gd, wn.heap.size = gd := ⟨_, rfl⟩; have n1 : wr.heap.size < gd := hgd ▸ hS.1.b1.lt; have n2 : g3 < gd := hgd ▸ hS.1.b2.lt; have n3 : w.heap.size < gd := hgd ▸ hS.1.b3.lt; have n4 : g1 < gd := hgd ▸ (Hcy.out _ hS.f1).1; have n5 : b < gd := hgd ▸ (CodeAt.cells hS.f2 hlt).1) | (go_at_call 33; apply calls_abs (w0 := w); (repeat (first | with_reducible apply Sx.alloc | with_reducible apply Sx.drew | with_reducible apply Sx.drewN | with_reducible exact hS)); intro wx hS2; clear hS; have hS := hS2; clear hS2; (try simp only [World.size_alloc, World.size_drew] at hS); refine (HT.out _).mono ?_; rintro e wn ⟨rfl, hB⟩; replace hS := Sx.call hB hS; clear hB; clear hc; have hc := hS.cellsL; simp only [CellsL, CellsF, Nat.zero_add, Nat.reduceAdd, and_true, true_and] at hc; simp only [hgd] at hS hc) | (go_at_call 34; apply calls_abs (w0 := w); (repeat (first | with_reducible apply Sx.alloc | with_reducible apply Sx.drew | with_reducible apply Sx.drewN | with_reducible exact hS)); intro wx hS2; clear hS; have hS := hS2; clear hS2; (try simp only [World.size_alloc, World.size_drew] at hS); refine (HR.out _).mono ?_; rintro e wn ⟨rfl, hB⟩; replace hS := Sx.call hB hS; clear hB; clear hc; have hc := hS.cellsL; simp only [CellsL, CellsF, Nat.zero_add, Nat.reduceAdd, and_true, true_and] at hc) | (go_at_call 27; have _t := T1; clear T1 _t; apply calls_abs (w0 := w); (repeat (first | with_reducible apply Sx.alloc | with_reducible apply Sx.drew | with_reducible apply Sx.drewN | with_reducible exact hS)); intro wx hS2; clear hS; have hS := hS2; clear hS2; (try simp only [World.size_alloc, World.size_drew] at hS); refine (HP1.out _ hS.f2).mono ?_; rintro e wn ⟨rfl, hB⟩; replace hS := Sx.call hB hS; clear hB; clear hc; have hc := hS.cellsL; simp only [CellsL, CellsF, Nat.zero_add, Nat.reduceAdd, and_true, true_and] at hc) | (go_at_call 27; have _t := T2; clear T2 _t; apply calls_abs (w0 := w); (repeat (first | with_reducible apply Sx.alloc | with_reducible apply Sx.drew | with_reducible apply Sx.drewN | with_reducible exact hS)); intro wx hS2; clear hS; have hS := hS2; clear hS2; (try simp only [World.size_alloc, World.size_drew] at hS); refine (HP2.out _ hS.f1).mono ?_; rintro e wn ⟨rfl, hB⟩; replace hS := Sx.call hB hS; clear hB; clear hc; have hc := hS.cellsL; simp only [CellsL, CellsF, Nat.zero_add, Nat.reduceAdd, and_true, true_and] at hc))
            go_roundw
            case rel => exact ⟨k + 1, hlt, by go_num, hS.drop.drop⟩
            case measure => simp [intOf]; omega
      · obtain rfl : k = l.length := by omega
        clear hlt hk
        go_wp2
        go_ret
        exact ⟨rfl, hS.below⟩

end Go.Proofs.Yteonkfdmkgjpaaa
