/- The walks of the laws of layer 32: PeepholeNormal. -/
import Derived.Test.YteonkfdmkgjpaaaPeeS
import Derived.Deep.RegionHeld3
import Derived.Deep.DeepCutAuto
import Derived.BigQuiet
import Derived.Deep.QuietTactic
import Derived.BigRegion
import Derived.Deep.CutBlock
namespace Go.Proofs.Yteonkfdmkgjpaaa
open Go.RowKit
set_option linter.unusedVariables false
set_option linter.unusedSimpArgs false

set_option maxHeartbeats 16000000 in
set_option maxRecDepth 100000 in
theorem peepholeNormal_walk (l : List Ins) (A : Option Addr) (cap : Nat) (mem st : Int) (w : World) (hA : CodeAt w A l) (hok : InsOk l) (hml : l.length ≤ maxLen) :
    Calls Try.prog 15 #[.agg #[.slice A l.length cap, .int .i64 mem, .int .i64 st]] w fun e w' => e = .returned (.bool true) ∧ Below w.heap.size w w' := by
  cases hs : (decide (l.length ≤ 90) && Img.valid l mem st)
  · clear hok hml
    have HSM := Lib.hid (fun wx h => small_any l A cap mem st false hs wx h)
    clear hs
    have hS : Sx w [] [codeF A l] w := (Sx.add (f := codeF A l) (hA) (Sx.start (F := []) w (fun _ h => by cases h)))
    have hc : True := trivial
    go_enter Try.func15, Try.ntmps15
    go_wp2_with (first | (go_at_call 37; apply calls_abs (w0 := w); (repeat (first | with_reducible apply Sx.alloc | with_reducible apply Sx.drew | with_reducible apply Sx.drewN | with_reducible exact hS)); intro wx hS2; clear hS; have hS := hS2; clear hS2; (try simp only [World.size_alloc, World.size_drew] at hS); refine (peeAwake_any _).mono ?_; rintro e wn ⟨rfl, hB⟩; replace hS := Sx.call hB hS; clear hB; clear hc; have hc := hS.cellsL; simp only [CellsL, CellsF, Nat.zero_add, Nat.reduceAdd, and_true, true_and] at hc) | (go_at_call 40; apply calls_abs (w0 := w); (repeat (first | with_reducible apply Sx.alloc | with_reducible apply Sx.drew | with_reducible apply Sx.drewN | with_reducible exact hS)); intro wx hS2; clear hS; have hS := hS2; clear hS2; (try simp only [World.size_alloc, World.size_drew] at hS); refine (HSM.out _ hS.f1).mono ?_; rintro e wn ⟨rfl, hB⟩; replace hS := Sx.call hB hS; clear hB; clear hc; have hc := hS.cellsL; simp only [CellsL, CellsF, Nat.zero_add, Nat.reduceAdd, and_true, true_and] at hc))
    go_ret
    exact ⟨rfl, hS.below⟩
  have hs2 : l.length ≤ 90 ∧ Img.valid l mem st = true := by simpa using hs
  obtain ⟨hl9, hv⟩ := hs2
  have hOk := Img.valid_ok hv
  have HSM := Lib.hid (fun wx h => small_any l A cap mem st true hs wx h)
  clear hs hok hml
  obtain ⟨x, hx⟩ : ∃ x, Pee.opt l = x := ⟨_, rfl⟩
  obtain ⟨q, hq⟩ : ∃ q, x.length = q := ⟨_, rfl⟩
  have hle := Pee.opt_le l
  have hvx := Pee.opt_valid hv
  have hxx := Pee.opt_opt hOk
  have hirr := (Pee.opt_ok hOk).2
  rw [hx] at hle hvx hxx hirr
  rw [hq] at hle
  have HIR := Lib.hid hirr
  have HXQ := Lib.hid hq
  have HO := Lib.hid (fun wx h => popt_ex l x l.length q cap mem st rfl hv hx hq A wx h)
  have HV := Lib.hid (fun A1 c1 wx h => valid_ex x q c1 mem st hq true hvx A1 wx h)
  have HO2 := Lib.hid (fun A1 c1 wx h => popt_ex x x q q c1 mem st hq hvx hxx hq A1 wx h)
  have HC := Lib.hid (fun A1 A2 c1 c2 wx h h' => codes_ex x x A1 A2 q q c1 c2 true hq hq (by simp) (by omega) wx h h')
  have HR := Lib.hid (fun A1 c1 wx h => removed_ex x A1 q c1 mem st 0 wx hq hvx (by rw [hxx]; omega) h)
  have g1 : ¬ (l.length : Int) < (q : Int) := by omega
  have g2 : decide ((l.length : Int) < (q : Int)) = false := decide_eq_false g1
  clear hvx hxx hx hirr hOk hv hq
  have hS : Sx w [] [codeF A l] w := (Sx.add (f := codeF A l) (hA) (Sx.start (F := []) w (fun _ h => by cases h)))
  have hc : True := trivial
  go_enter Try.func15, Try.ntmps15
  go_upto_region 4 with (first | (go_at_call 37; apply calls_abs (w0 := w); (repeat (first | with_reducible apply Sx.alloc | with_reducible apply Sx.drew | with_reducible apply Sx.drewN | with_reducible exact hS)); intro wx hS2; clear hS; have hS := hS2; clear hS2; (try simp only [World.size_alloc, World.size_drew] at hS); refine (peeAwake_any _).mono ?_; rintro e wn ⟨rfl, hB⟩; replace hS := Sx.call hB hS; clear hB; clear hc; have hc := hS.cellsL; simp only [CellsL, CellsF, Nat.zero_add, Nat.reduceAdd, and_true, true_and] at hc) | (go_at_call 40; apply calls_abs (w0 := w); (repeat (first | with_reducible apply Sx.alloc | with_reducible apply Sx.drew | with_reducible apply Sx.drewN | with_reducible exact hS)); intro wx hS2; clear hS; have hS := hS2; clear hS2; (try simp only [World.size_alloc, World.size_drew] at hS); refine (HSM.out _ hS.f1).mono ?_; rintro e wn ⟨rfl, hB⟩; replace hS := Sx.call hB hS; clear hB; clear hc; have hc := hS.cellsL; simp only [CellsL, CellsF, Nat.zero_add, Nat.reduceAdd, and_true, true_and] at hc) | (go_at_call 41; apply calls_abs (w0 := w); (repeat (first | with_reducible apply Sx.alloc | with_reducible apply Sx.drew | with_reducible apply Sx.drewN | with_reducible exact hS)); intro wx hS2; clear hS; have hS := hS2; clear hS2; (try simp only [World.size_alloc, World.size_drew] at hS); refine (HO.out _ hS.f1).mono ?_; rintro e wn ⟨A2, c2, rfl, hB, h2⟩; replace hS := Sx.callF (f := codeF A2 x) hB (h2) hS; clear hB; clear hc; have hc := hS.cellsL; simp only [CellsL, CellsF, Nat.zero_add, Nat.reduceAdd, and_true, true_and] at hc; obtain ⟨b1, hb1⟩ : ∃ q, wn.heap.size = q := ⟨_, rfl⟩; simp only [hb1] at hc))
  apply wp_abs (w0 := w)
  · (repeat (first | with_reducible apply Sx.alloc | with_reducible apply Sx.drew | with_reducible apply Sx.drewN | with_reducible exact hS))
  intro wx hS2; clear hS; have hS := hS2; clear hS2; (try simp only [World.size_alloc, World.size_drew] at hS)
  clear hc; have hc := hS.cellsL; simp only [CellsL, CellsF, Nat.zero_add, Nat.reduceAdd, and_true, true_and] at hc
  simp only [hb1] at hS hc ⊢
  clear HSM HO
  go_upto_region 6 with (first | (go_at_call 25; apply calls_abs (w0 := w); (repeat (first | with_reducible apply Sx.alloc | with_reducible apply Sx.drew | with_reducible apply Sx.drewN | with_reducible exact hS)); intro wx hS2; clear hS; have hS := hS2; clear hS2; (try simp only [World.size_alloc, World.size_drew] at hS); refine (HV.out _ _ _ hS.f1).mono ?_; rintro e wn ⟨rfl, hB⟩; replace hS := Sx.call hB hS; clear hB; clear hc; have hc := hS.cellsL; simp only [CellsL, CellsF, Nat.zero_add, Nat.reduceAdd, and_true, true_and] at hc))
  apply wp_abs (w0 := w)
  · (repeat (first | with_reducible apply Sx.alloc | with_reducible apply Sx.drew | with_reducible apply Sx.drewN | with_reducible exact hS))
  intro wx hS2; clear hS; have hS := hS2; clear hS2; (try simp only [World.size_alloc, World.size_drew] at hS)
  clear hc; have hc := hS.cellsL; simp only [CellsL, CellsF, Nat.zero_add, Nat.reduceAdd, and_true, true_and] at hc
  have hb2 := hS.1.b1.lt
  clear hb1 HV
  go_wp2_with fail
  obtain ⟨wo, hwo⟩ : ∃ wo : World, wo = wx := ⟨_, rfl⟩
  rw [← hwo] at hS hc ⊢
  clear hwo hc hb2
  go_loopw [5] (fun s wr => ∃ j : Nat, 1 ≤ j ∧ j ≤ q + 1 ∧ s = .int .i64 (j : Int) ∧ Sx w [(b1, 24, #[Value.slice A2 q c2, Value.int .i64 mem, Value.int .i64 st]), (w.heap.size, 24, #[Value.slice A l.length cap, Value.int .i64 mem, Value.int .i64 st])] [codeF A2 x, codeF A l] wr) (fun s _ => q + 1 - (intOf s).toNat)
  case atStart => exact ⟨1, by omega, by omega, rfl, hS⟩
  case round =>
    clear hS
    obtain ⟨j, hj0, hj1, rfl, hS⟩ := hrel
    have hc := hS.cellsL
    simp only [CellsL, CellsF, Nat.zero_add, Nat.reduceAdd, and_true, true_and] at hc
    by_cases hlt : j < q
    · obtain ⟨j0, hj2⟩ : ∃ j0, j = j0 + 1 := ⟨j - 1, by omega⟩
      have o1 : IntKind.i64.wrap ((j : Int) - 1) = (j0 : Int) := by rw [show (j : Int) - 1 = (j0 : Int) by omega]; exact Go.IntWalk.i64_in _ (by omega)
      have e1 : (j : Int) < (q : Int) := by omega
      have e2 : (j0 : Int) < (q : Int) := by omega
      have e3 : (0 : Int) ≤ (j0 : Int) := by omega
      have hjx : j < x.length := by rw [HXQ.out]; exact hlt
      have hj0x : j0 < x.length := by omega
      obtain ⟨b, o, rfl⟩ := CodeAt.some (show CodeAt wr A2 x from hS.f1) (by omega)
      have HCA : Pee.cancels (Img.at_ x j0) (Img.at_ x j) = false := by have := HIR.out j0 (by omega); rwa [← hj2] at this
      obtain ⟨u, hu⟩ : ∃ u, Img.at_ x j0 = u := ⟨_, rfl⟩
      obtain ⟨v, hv⟩ : ∃ v, Img.at_ x j = v := ⟨_, rfl⟩
      rw [hu, hv] at HCA
      have HCC := Lib.hid (fun wx => pcancels_ex u v false HCA wx)
      have HK2 := Lib.hid (show ∀ wx : World, Sx w [(b1, 24, #[Value.slice (some ⟨b, o, none⟩) q c2, Value.int .i64 mem, Value.int .i64 st]), (w.heap.size, 24, #[Value.slice A l.length cap, Value.int .i64 mem, Value.int .i64 st])] [codeF (some ⟨b, o, none⟩) x, codeF A l] wx → (wx.cell? ⟨b1, 0, none⟩ = some (Value.slice (some ⟨b, o, none⟩) q c2) ∧ wx.cell? ⟨b1, 1, none⟩ = some (Value.int .i64 mem) ∧ wx.cell? ⟨b1, 2, none⟩ = some (Value.int .i64 st) ∧ wx.cell? ⟨w.heap.size, 0, none⟩ = some (Value.slice A l.length cap) ∧ wx.cell? ⟨w.heap.size, 1, none⟩ = some (Value.int .i64 mem) ∧ wx.cell? ⟨w.heap.size, 2, none⟩ = some (Value.int .i64 st) ∧ wx.cell? ⟨b, o + j0 * 5, none⟩ = some (Value.int .u8 (u).op) ∧ wx.cell? ⟨b, o + j0 * 5 + 1, none⟩ = some (Value.int .i64 (u).a) ∧ wx.cell? ⟨b, o + j0 * 5 + 2, none⟩ = some (Value.int .i64 (u).b) ∧ wx.cell? ⟨b, o + j0 * 5 + 3, none⟩ = some (Value.int .i64 (u).c) ∧ wx.cell? ⟨b, o + j0 * 5 + 4, none⟩ = some (Value.int .i64 (u).d) ∧ wx.cell? ⟨b, o + j * 5, none⟩ = some (Value.int .u8 (v).op) ∧ wx.cell? ⟨b, o + j * 5 + 1, none⟩ = some (Value.int .i64 (v).a) ∧ wx.cell? ⟨b, o + j * 5 + 2, none⟩ = some (Value.int .i64 (v).b) ∧ wx.cell? ⟨b, o + j * 5 + 3, none⟩ = some (Value.int .i64 (v).c) ∧ wx.cell? ⟨b, o + j * 5 + 4, none⟩ = some (Value.int .i64 (v).d) ∧ Sx w [(b1, 24, #[Value.slice (some ⟨b, o, none⟩) q c2, Value.int .i64 mem, Value.int .i64 st]), (w.heap.size, 24, #[Value.slice A l.length cap, Value.int .i64 mem, Value.int .i64 st])] [codeF (some ⟨b, o, none⟩) x, codeF A l] wx) from fun wx h => by
        have c := h.cellsL
        simp only [CellsL, CellsF, Nat.zero_add, Nat.reduceAdd, and_true, true_and] at c
        obtain ⟨-, z0, z1, z2, z3, z4⟩ := CodeAt.cells (show CodeAt wx (some ⟨b, o, none⟩) x from h.f1) hj0x
        obtain ⟨-, y0, y1, y2, y3, y4⟩ := CodeAt.cells (show CodeAt wx (some ⟨b, o, none⟩) x from h.f1) hjx
        rw [hu] at z0 z1 z2 z3 z4
        rw [hv] at y0 y1 y2 y3 y4
        simp [c, z0, z1, z2, z3, z4, y0, y1, y2, y3, y4, h])
      have HKO := Lib.hid (fun (wx : World) (h : wx.cell? ⟨b1, 0, none⟩ = some (Value.slice (some ⟨b, o, none⟩) q c2) ∧ wx.cell? ⟨b1, 1, none⟩ = some (Value.int .i64 mem) ∧ wx.cell? ⟨b1, 2, none⟩ = some (Value.int .i64 st) ∧ wx.cell? ⟨w.heap.size, 0, none⟩ = some (Value.slice A l.length cap) ∧ wx.cell? ⟨w.heap.size, 1, none⟩ = some (Value.int .i64 mem) ∧ wx.cell? ⟨w.heap.size, 2, none⟩ = some (Value.int .i64 st) ∧ wx.cell? ⟨b, o + j0 * 5, none⟩ = some (Value.int .u8 (u).op) ∧ wx.cell? ⟨b, o + j0 * 5 + 1, none⟩ = some (Value.int .i64 (u).a) ∧ wx.cell? ⟨b, o + j0 * 5 + 2, none⟩ = some (Value.int .i64 (u).b) ∧ wx.cell? ⟨b, o + j0 * 5 + 3, none⟩ = some (Value.int .i64 (u).c) ∧ wx.cell? ⟨b, o + j0 * 5 + 4, none⟩ = some (Value.int .i64 (u).d) ∧ wx.cell? ⟨b, o + j * 5, none⟩ = some (Value.int .u8 (v).op) ∧ wx.cell? ⟨b, o + j * 5 + 1, none⟩ = some (Value.int .i64 (v).a) ∧ wx.cell? ⟨b, o + j * 5 + 2, none⟩ = some (Value.int .i64 (v).b) ∧ wx.cell? ⟨b, o + j * 5 + 3, none⟩ = some (Value.int .i64 (v).c) ∧ wx.cell? ⟨b, o + j * 5 + 4, none⟩ = some (Value.int .i64 (v).d) ∧ Sx w [(b1, 24, #[Value.slice (some ⟨b, o, none⟩) q c2, Value.int .i64 mem, Value.int .i64 st]), (w.heap.size, 24, #[Value.slice A l.length cap, Value.int .i64 mem, Value.int .i64 st])] [codeF (some ⟨b, o, none⟩) x, codeF A l] wx) => (show Sx w [(b1, 24, #[Value.slice (some ⟨b, o, none⟩) q c2, Value.int .i64 mem, Value.int .i64 st]), (w.heap.size, 24, #[Value.slice A l.length cap, Value.int .i64 mem, Value.int .i64 st])] [codeF (some ⟨b, o, none⟩) x, codeF A l] wx from h.2.2.2.2.2.2.2.2.2.2.2.2.2.2.2.2))
      clear hu hv HCA hj2 HIR HXQ
      go_upto_region 9 with fail
      have hH := HK2.out _ hS
      clear hc
      go_region_held3 (fun wx => wx.cell? ⟨b1, 0, none⟩ = some (Value.slice (some ⟨b, o, none⟩) q c2) ∧ wx.cell? ⟨b1, 1, none⟩ = some (Value.int .i64 mem) ∧ wx.cell? ⟨b1, 2, none⟩ = some (Value.int .i64 st) ∧ wx.cell? ⟨w.heap.size, 0, none⟩ = some (Value.slice A l.length cap) ∧ wx.cell? ⟨w.heap.size, 1, none⟩ = some (Value.int .i64 mem) ∧ wx.cell? ⟨w.heap.size, 2, none⟩ = some (Value.int .i64 st) ∧ wx.cell? ⟨b, o + j0 * 5, none⟩ = some (Value.int .u8 (u).op) ∧ wx.cell? ⟨b, o + j0 * 5 + 1, none⟩ = some (Value.int .i64 (u).a) ∧ wx.cell? ⟨b, o + j0 * 5 + 2, none⟩ = some (Value.int .i64 (u).b) ∧ wx.cell? ⟨b, o + j0 * 5 + 3, none⟩ = some (Value.int .i64 (u).c) ∧ wx.cell? ⟨b, o + j0 * 5 + 4, none⟩ = some (Value.int .i64 (u).d) ∧ wx.cell? ⟨b, o + j * 5, none⟩ = some (Value.int .u8 (v).op) ∧ wx.cell? ⟨b, o + j * 5 + 1, none⟩ = some (Value.int .i64 (v).a) ∧ wx.cell? ⟨b, o + j * 5 + 2, none⟩ = some (Value.int .i64 (v).b) ∧ wx.cell? ⟨b, o + j * 5 + 3, none⟩ = some (Value.int .i64 (v).c) ∧ wx.cell? ⟨b, o + j * 5 + 4, none⟩ = some (Value.int .i64 (v).d) ∧ Sx w [(b1, 24, #[Value.slice (some ⟨b, o, none⟩) q c2, Value.int .i64 mem, Value.int .i64 st]), (w.heap.size, 24, #[Value.slice A l.length cap, Value.int .i64 mem, Value.int .i64 st])] [codeF (some ⟨b, o, none⟩) x, codeF A l] wx) (first | exact HK2.out _ (Sx.drew (by assumption)) | exact HK2.out _ (by assumption)) (first | (go_at_call 38; have hS9 : Sx w [(b1, 24, #[Value.slice (some ⟨b, o, none⟩) q c2, Value.int .i64 mem, Value.int .i64 st]), (w.heap.size, 24, #[Value.slice A l.length cap, Value.int .i64 mem, Value.int .i64 st])] [codeF (some ⟨b, o, none⟩) x, codeF A l] _ := (HKO.out _ (by assumption)); with_reducible refine (HCC.out _).mono ?_; rintro e wn ⟨rfl, hB⟩; have hS8 := Sx.call hB hS9; clear hB))
      clear HK2 HKO hS HCC
      go_wp2
      go_roundw
      case rel => exact ⟨j + 1, by omega, by omega, by go_num, hS8⟩
      case measure => simp [intOf] <;> omega
    · have e1 : ¬ (j : Int) < (q : Int) := by omega
      clear HIR HXQ
      go_upto_region 12 with (first | (go_at_call 41; apply calls_abs (w0 := w); (repeat (first | with_reducible apply Sx.alloc | with_reducible apply Sx.drew | with_reducible apply Sx.drewN | with_reducible exact hS)); intro wx hS2; clear hS; have hS := hS2; clear hS2; (try simp only [World.size_alloc, World.size_drew] at hS); refine (HO2.out _ _ _ hS.f1).mono ?_; rintro e wn ⟨A4, c4, rfl, hB, h4⟩; replace hS := Sx.callF (f := codeF A4 x) hB (h4) hS; clear hB; clear hc; have hc := hS.cellsL; simp only [CellsL, CellsF, Nat.zero_add, Nat.reduceAdd, and_true, true_and] at hc; obtain ⟨b4, hb4⟩ : ∃ q, wn.heap.size = q := ⟨_, rfl⟩; simp only [hb4] at hc))
      apply wp_abs (w0 := w)
      · (repeat (first | with_reducible apply Sx.alloc | with_reducible apply Sx.drew | with_reducible apply Sx.drewN | with_reducible exact hS))
      intro wx hS2; clear hS; have hS := hS2; clear hS2; (try simp only [World.size_alloc, World.size_drew] at hS)
      clear hc; have hc := hS.cellsL; simp only [CellsL, CellsF, Nat.zero_add, Nat.reduceAdd, and_true, true_and] at hc
      simp only [hb4] at hS hc ⊢
      go_wp2_with (first | (go_at_call 42; apply calls_abs (w0 := w); (repeat (first | with_reducible apply Sx.alloc | with_reducible apply Sx.drew | with_reducible apply Sx.drewN | with_reducible exact hS)); intro wx hS2; clear hS; have hS := hS2; clear hS2; (try simp only [World.size_alloc, World.size_drew] at hS); refine (HC.out _ _ _ _ _ hS.f2 hS.f1).mono ?_; rintro e wn ⟨rfl, hB⟩; replace hS := Sx.call hB hS; clear hB; clear hc; have hc := hS.cellsL; simp only [CellsL, CellsF, Nat.zero_add, Nat.reduceAdd, and_true, true_and] at hc) | (go_at_call 44; apply calls_abs (w0 := w); (repeat (first | with_reducible apply Sx.alloc | with_reducible apply Sx.drew | with_reducible apply Sx.drewN | with_reducible exact hS)); intro wx hS2; clear hS; have hS := hS2; clear hS2; (try simp only [World.size_alloc, World.size_drew] at hS); refine (HR.out _ _ _ hS.f2).mono ?_; rintro e wn ⟨rfl, hB⟩; replace hS := Sx.call hB hS; clear hB; clear hc; have hc := hS.cellsL; simp only [CellsL, CellsF, Nat.zero_add, Nat.reduceAdd, and_true, true_and] at hc))
      go_ret
      exact ⟨rfl, hS.below⟩

end Go.Proofs.Yteonkfdmkgjpaaa
