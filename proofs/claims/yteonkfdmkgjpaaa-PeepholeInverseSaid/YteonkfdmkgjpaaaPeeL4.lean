/- The walks of the laws of layer 32: PeepholeInverse. -/
import Derived.Test.YteonkfdmkgjpaaaPeeS
import Derived.Deep.RegionHeld3
import Derived.Deep.DeepCutAuto
import Derived.BigQuiet
import Derived.Deep.QuietTactic
import Derived.BigRegion
import Derived.Deep.CutBlock
namespace Go.Proofs.Yteonkfdmkgjpaaa
open Go.RowKit
set_option linter.unusedVariables false
set_option linter.unusedSimpArgs false

set_option maxHeartbeats 16000000 in
set_option maxRecDepth 100000 in
theorem peepholeInverse_walk (l : List Ins) (A : Option Addr) (cap : Nat) (mem st : Int) (w : World) (hA : CodeAt w A l) (hok : InsOk l) (hml : l.length ≤ maxLen) :
    Calls Try.prog 17 #[.agg #[.slice A l.length cap, .int .i64 mem, .int .i64 st]] w fun e w' => e = .returned (.bool true) ∧ Below w.heap.size w w' := by
  cases hs : (decide (l.length ≤ 90) && Img.valid l mem st)
  · clear hok hml
    have HSM := Lib.hid (fun wx h => small_any l A cap mem st false hs wx h)
    clear hs
    have hS : Sx w [] [codeF A l] w := (Sx.add (f := codeF A l) (hA) (Sx.start (F := []) w (fun _ h => by cases h)))
    have hc : True := trivial
    go_enter Try.func17, Try.ntmps17
    go_wp2_with (first | (go_at_call 37; apply calls_abs (w0 := w); (repeat (first | with_reducible apply Sx.alloc | with_reducible apply Sx.drew | with_reducible apply Sx.drewN | with_reducible exact hS)); intro wx hS2; clear hS; have hS := hS2; clear hS2; (try simp only [World.size_alloc, World.size_drew] at hS); refine (peeAwake_any _).mono ?_; rintro e wn ⟨rfl, hB⟩; replace hS := Sx.call hB hS; clear hB; clear hc; have hc := hS.cellsL; simp only [CellsL, CellsF, Nat.zero_add, Nat.reduceAdd, and_true, true_and] at hc) | (go_at_call 40; apply calls_abs (w0 := w); (repeat (first | with_reducible apply Sx.alloc | with_reducible apply Sx.drew | with_reducible apply Sx.drewN | with_reducible exact hS)); intro wx hS2; clear hS; have hS := hS2; clear hS2; (try simp only [World.size_alloc, World.size_drew] at hS); refine (HSM.out _ hS.f1).mono ?_; rintro e wn ⟨rfl, hB⟩; replace hS := Sx.call hB hS; clear hB; clear hc; have hc := hS.cellsL; simp only [CellsL, CellsF, Nat.zero_add, Nat.reduceAdd, and_true, true_and] at hc))
    go_ret
    exact ⟨rfl, hS.below⟩
  have hs2 : l.length ≤ 90 ∧ Img.valid l mem st = true := by simpa using hs
  obtain ⟨hl9, hv⟩ := hs2
  have hOk := Img.valid_ok hv
  have HSM := Lib.hid (fun wx h => small_any l A cap mem st true hs wx h)
  clear hs hok hml
  have hva := Img.valid_mirror hv
  have hvc := Pee.opt_valid hv
  have hm := Pee.opt_mirror hOk
  have hla := Img.invert_length l
  have hlc := Img.invert_length (Pee.opt l)
  obtain ⟨a, ha⟩ : ∃ a, Img.invert l = a := ⟨_, rfl⟩
  obtain ⟨c, hx⟩ : ∃ c, Pee.opt l = c := ⟨_, rfl⟩
  obtain ⟨d, hd⟩ : ∃ d, Img.invert c = d := ⟨_, rfl⟩
  obtain ⟨q, hq⟩ : ∃ q, c.length = q := ⟨_, rfl⟩
  have hle := Pee.opt_le l
  rw [hx] at hm hvc hlc hle
  rw [ha] at hm hva hla
  rw [hd] at hm hlc
  rw [hq] at hlc hle
  have HI1 := Lib.hid (fun wx h => inv_ex l a l.length cap mem st rfl (by omega) hv ha A wx h)
  have HO1 := Lib.hid (fun A1 wx h => popt_ex a d l.length q l.length mem st hla hva hm hlc A1 wx h)
  have HO2 := Lib.hid (fun wx h => popt_ex l c l.length q cap mem st rfl hv hx hq A wx h)
  have HI2 := Lib.hid (fun A1 c1 wx h => inv_ex c d q c1 mem st hq (by omega) hvc hd A1 wx h)
  have HC := Lib.hid (fun A1 A2 c1 c2 wx h h' => codes_ex d d A1 A2 q q c1 c2 true hlc hlc (by simp) (by omega) wx h h')
  have HR1 := Lib.hid (fun A1 wx h => removed_ex a A1 l.length l.length mem st ((l.length : Int) - (q : Int)) wx hla hva (by rw [hm, hlc, hla]) h)
  have HR2 := Lib.hid (fun wx h => removed_ex l A l.length cap mem st ((l.length : Int) - (q : Int)) wx rfl hv (by rw [hx, hq]) h)
  generalize (l.length : Int) - (q : Int) = k at *
  clear hva hvc hm hla hlc ha hx hd hq hOk hv hle hl9
  have hS : Sx w [] [codeF A l] w := (Sx.add (f := codeF A l) (hA) (Sx.start (F := []) w (fun _ h => by cases h)))
  have hc : True := trivial
  go_enter Try.func17, Try.ntmps17
  go_upto_region 4 with (first | (go_at_call 37; apply calls_abs (w0 := w); (repeat (first | with_reducible apply Sx.alloc | with_reducible apply Sx.drew | with_reducible apply Sx.drewN | with_reducible exact hS)); intro wx hS2; clear hS; have hS := hS2; clear hS2; (try simp only [World.size_alloc, World.size_drew] at hS); refine (peeAwake_any _).mono ?_; rintro e wn ⟨rfl, hB⟩; replace hS := Sx.call hB hS; clear hB; clear hc; have hc := hS.cellsL; simp only [CellsL, CellsF, Nat.zero_add, Nat.reduceAdd, and_true, true_and] at hc) | (go_at_call 40; apply calls_abs (w0 := w); (repeat (first | with_reducible apply Sx.alloc | with_reducible apply Sx.drew | with_reducible apply Sx.drewN | with_reducible exact hS)); intro wx hS2; clear hS; have hS := hS2; clear hS2; (try simp only [World.size_alloc, World.size_drew] at hS); refine (HSM.out _ hS.f1).mono ?_; rintro e wn ⟨rfl, hB⟩; replace hS := Sx.call hB hS; clear hB; clear hc; have hc := hS.cellsL; simp only [CellsL, CellsF, Nat.zero_add, Nat.reduceAdd, and_true, true_and] at hc) | (go_at_call 20; apply calls_abs (w0 := w); (repeat (first | with_reducible apply Sx.alloc | with_reducible apply Sx.drew | with_reducible apply Sx.drewN | with_reducible exact hS)); intro wx hS2; clear hS; have hS := hS2; clear hS2; (try simp only [World.size_alloc, World.size_drew] at hS); refine (HI1.out _ hS.f1).mono ?_; rintro e wn ⟨g1, rfl, hB, h2⟩; replace hS := Sx.callF (f := codeF (some ⟨g1, 0, none⟩) a) hB (h2.at_) hS; clear hB; clear hc; have hc := hS.cellsL; simp only [CellsL, CellsF, Nat.zero_add, Nat.reduceAdd, and_true, true_and] at hc; obtain ⟨b1, hb1⟩ : ∃ q, wn.heap.size = q := ⟨_, rfl⟩; simp only [hb1] at hc))
  apply wp_abs (w0 := w)
  · (repeat (first | with_reducible apply Sx.alloc | with_reducible apply Sx.drew | with_reducible apply Sx.drewN | with_reducible exact hS))
  intro wx hS2; clear hS; have hS := hS2; clear hS2; (try simp only [World.size_alloc, World.size_drew] at hS)
  clear hc; have hc := hS.cellsL; simp only [CellsL, CellsF, Nat.zero_add, Nat.reduceAdd, and_true, true_and] at hc
  simp only [hb1] at hS hc ⊢
  go_upto_region 5 with (first | (go_at_call 41; apply calls_abs (w0 := w); (repeat (first | with_reducible apply Sx.alloc | with_reducible apply Sx.drew | with_reducible apply Sx.drewN | with_reducible exact hS)); intro wx hS2; clear hS; have hS := hS2; clear hS2; (try simp only [World.size_alloc, World.size_drew] at hS); refine (HO1.out _ _ hS.f1).mono ?_; rintro e wn ⟨A2, c2, rfl, hB, h2⟩; replace hS := Sx.callF (f := codeF A2 d) hB (h2) hS; clear hB; clear hc; have hc := hS.cellsL; simp only [CellsL, CellsF, Nat.zero_add, Nat.reduceAdd, and_true, true_and] at hc; obtain ⟨b2, hb2⟩ : ∃ q, wn.heap.size = q := ⟨_, rfl⟩; simp only [hb2] at hc))
  apply wp_abs (w0 := w)
  · (repeat (first | with_reducible apply Sx.alloc | with_reducible apply Sx.drew | with_reducible apply Sx.drewN | with_reducible exact hS))
  intro wx hS2; clear hS; have hS := hS2; clear hS2; (try simp only [World.size_alloc, World.size_drew] at hS)
  clear hc; have hc := hS.cellsL; simp only [CellsL, CellsF, Nat.zero_add, Nat.reduceAdd, and_true, true_and] at hc
  simp only [hb1, hb2] at hS hc ⊢
  go_upto_region 6 with (first | (go_at_call 41; apply calls_abs (w0 := w); (repeat (first | with_reducible apply Sx.alloc | with_reducible apply Sx.drew | with_reducible apply Sx.drewN | with_reducible exact hS)); intro wx hS2; clear hS; have hS := hS2; clear hS2; (try simp only [World.size_alloc, World.size_drew] at hS); refine (HO2.out _ hS.f3).mono ?_; rintro e wn ⟨A3, c3, rfl, hB, h2⟩; replace hS := Sx.callF (f := codeF A3 c) hB (h2) hS; clear hB; clear hc; have hc := hS.cellsL; simp only [CellsL, CellsF, Nat.zero_add, Nat.reduceAdd, and_true, true_and] at hc; obtain ⟨b3, hb3⟩ : ∃ q, wn.heap.size = q := ⟨_, rfl⟩; simp only [hb3] at hc))
  apply wp_abs (w0 := w)
  · (repeat (first | with_reducible apply Sx.alloc | with_reducible apply Sx.drew | with_reducible apply Sx.drewN | with_reducible exact hS))
  intro wx hS2; clear hS; have hS := hS2; clear hS2; (try simp only [World.size_alloc, World.size_drew] at hS)
  clear hc; have hc := hS.cellsL; simp only [CellsL, CellsF, Nat.zero_add, Nat.reduceAdd, and_true, true_and] at hc
  simp only [hb1, hb2, hb3] at hS hc ⊢
  go_upto_region 7 with (first | (go_at_call 20; apply calls_abs (w0 := w); (repeat (first | with_reducible apply Sx.alloc | with_reducible apply Sx.drew | with_reducible apply Sx.drewN | with_reducible exact hS)); intro wx hS2; clear hS; have hS := hS2; clear hS2; (try simp only [World.size_alloc, World.size_drew] at hS); refine (HI2.out _ _ _ hS.f1).mono ?_; rintro e wn ⟨g4, rfl, hB, h2⟩; replace hS := Sx.callF (f := codeF (some ⟨g4, 0, none⟩) d) hB (h2.at_) hS; clear hB; clear hc; have hc := hS.cellsL; simp only [CellsL, CellsF, Nat.zero_add, Nat.reduceAdd, and_true, true_and] at hc; obtain ⟨b4, hb4⟩ : ∃ q, wn.heap.size = q := ⟨_, rfl⟩; simp only [hb4] at hc))
  apply wp_abs (w0 := w)
  · (repeat (first | with_reducible apply Sx.alloc | with_reducible apply Sx.drew | with_reducible apply Sx.drewN | with_reducible exact hS))
  intro wx hS2; clear hS; have hS := hS2; clear hS2; (try simp only [World.size_alloc, World.size_drew] at hS)
  clear hc; have hc := hS.cellsL; simp only [CellsL, CellsF, Nat.zero_add, Nat.reduceAdd, and_true, true_and] at hc
  simp only [hb1, hb2, hb3, hb4] at hS hc ⊢
  clear hb1 hb2 hb3 hb4 HSM HO1 HO2 HI1 HI2
  have HK2 := Lib.hid (show ∀ wx : World, Sx w [(b4, 24, #[Value.slice (some ⟨g4, 0, none⟩) q q, Value.int .i64 mem, Value.int .i64 st]), (b3, 24, #[Value.slice A3 q c3, Value.int .i64 mem, Value.int .i64 st]), (b2, 24, #[Value.slice A2 q c2, Value.int .i64 mem, Value.int .i64 st]), (b1, 24, #[Value.slice (some ⟨g1, 0, none⟩) l.length l.length, Value.int .i64 mem, Value.int .i64 st]), (w.heap.size, 24, #[Value.slice A l.length cap, Value.int .i64 mem, Value.int .i64 st])] [codeF (some ⟨g4, 0, none⟩) d, codeF A3 c, codeF A2 d, codeF (some ⟨g1, 0, none⟩) a, codeF A l] wx → (wx.cell? ⟨b4, 0, none⟩ = some (Value.slice (some ⟨g4, 0, none⟩) q q) ∧ wx.cell? ⟨b4, 1, none⟩ = some (Value.int .i64 mem) ∧ wx.cell? ⟨b4, 2, none⟩ = some (Value.int .i64 st) ∧ wx.cell? ⟨b3, 0, none⟩ = some (Value.slice A3 q c3) ∧ wx.cell? ⟨b3, 1, none⟩ = some (Value.int .i64 mem) ∧ wx.cell? ⟨b3, 2, none⟩ = some (Value.int .i64 st) ∧ wx.cell? ⟨b2, 0, none⟩ = some (Value.slice A2 q c2) ∧ wx.cell? ⟨b2, 1, none⟩ = some (Value.int .i64 mem) ∧ wx.cell? ⟨b2, 2, none⟩ = some (Value.int .i64 st) ∧ wx.cell? ⟨b1, 0, none⟩ = some (Value.slice (some ⟨g1, 0, none⟩) l.length l.length) ∧ wx.cell? ⟨b1, 1, none⟩ = some (Value.int .i64 mem) ∧ wx.cell? ⟨b1, 2, none⟩ = some (Value.int .i64 st) ∧ wx.cell? ⟨w.heap.size, 0, none⟩ = some (Value.slice A l.length cap) ∧ wx.cell? ⟨w.heap.size, 1, none⟩ = some (Value.int .i64 mem) ∧ wx.cell? ⟨w.heap.size, 2, none⟩ = some (Value.int .i64 st) ∧ Sx w [(b4, 24, #[Value.slice (some ⟨g4, 0, none⟩) q q, Value.int .i64 mem, Value.int .i64 st]), (b3, 24, #[Value.slice A3 q c3, Value.int .i64 mem, Value.int .i64 st]), (b2, 24, #[Value.slice A2 q c2, Value.int .i64 mem, Value.int .i64 st]), (b1, 24, #[Value.slice (some ⟨g1, 0, none⟩) l.length l.length, Value.int .i64 mem, Value.int .i64 st]), (w.heap.size, 24, #[Value.slice A l.length cap, Value.int .i64 mem, Value.int .i64 st])] [codeF (some ⟨g4, 0, none⟩) d, codeF A3 c, codeF A2 d, codeF (some ⟨g1, 0, none⟩) a, codeF A l] wx) from fun wx h => by
    have c := h.cellsL
    simp only [CellsL, CellsF, Nat.zero_add, Nat.reduceAdd, and_true, true_and] at c
    simp [c, h])
  have HKO := Lib.hid (fun (wx : World) (h : wx.cell? ⟨b4, 0, none⟩ = some (Value.slice (some ⟨g4, 0, none⟩) q q) ∧ wx.cell? ⟨b4, 1, none⟩ = some (Value.int .i64 mem) ∧ wx.cell? ⟨b4, 2, none⟩ = some (Value.int .i64 st) ∧ wx.cell? ⟨b3, 0, none⟩ = some (Value.slice A3 q c3) ∧ wx.cell? ⟨b3, 1, none⟩ = some (Value.int .i64 mem) ∧ wx.cell? ⟨b3, 2, none⟩ = some (Value.int .i64 st) ∧ wx.cell? ⟨b2, 0, none⟩ = some (Value.slice A2 q c2) ∧ wx.cell? ⟨b2, 1, none⟩ = some (Value.int .i64 mem) ∧ wx.cell? ⟨b2, 2, none⟩ = some (Value.int .i64 st) ∧ wx.cell? ⟨b1, 0, none⟩ = some (Value.slice (some ⟨g1, 0, none⟩) l.length l.length) ∧ wx.cell? ⟨b1, 1, none⟩ = some (Value.int .i64 mem) ∧ wx.cell? ⟨b1, 2, none⟩ = some (Value.int .i64 st) ∧ wx.cell? ⟨w.heap.size, 0, none⟩ = some (Value.slice A l.length cap) ∧ wx.cell? ⟨w.heap.size, 1, none⟩ = some (Value.int .i64 mem) ∧ wx.cell? ⟨w.heap.size, 2, none⟩ = some (Value.int .i64 st) ∧ Sx w [(b4, 24, #[Value.slice (some ⟨g4, 0, none⟩) q q, Value.int .i64 mem, Value.int .i64 st]), (b3, 24, #[Value.slice A3 q c3, Value.int .i64 mem, Value.int .i64 st]), (b2, 24, #[Value.slice A2 q c2, Value.int .i64 mem, Value.int .i64 st]), (b1, 24, #[Value.slice (some ⟨g1, 0, none⟩) l.length l.length, Value.int .i64 mem, Value.int .i64 st]), (w.heap.size, 24, #[Value.slice A l.length cap, Value.int .i64 mem, Value.int .i64 st])] [codeF (some ⟨g4, 0, none⟩) d, codeF A3 c, codeF A2 d, codeF (some ⟨g1, 0, none⟩) a, codeF A l] wx) => (show Sx w [(b4, 24, #[Value.slice (some ⟨g4, 0, none⟩) q q, Value.int .i64 mem, Value.int .i64 st]), (b3, 24, #[Value.slice A3 q c3, Value.int .i64 mem, Value.int .i64 st]), (b2, 24, #[Value.slice A2 q c2, Value.int .i64 mem, Value.int .i64 st]), (b1, 24, #[Value.slice (some ⟨g1, 0, none⟩) l.length l.length, Value.int .i64 mem, Value.int .i64 st]), (w.heap.size, 24, #[Value.slice A l.length cap, Value.int .i64 mem, Value.int .i64 st])] [codeF (some ⟨g4, 0, none⟩) d, codeF A3 c, codeF A2 d, codeF (some ⟨g1, 0, none⟩) a, codeF A l] wx from h.2.2.2.2.2.2.2.2.2.2.2.2.2.2.2))
  have hH := HK2.out _ hS
  clear hc
  go_region_held3 (fun wx => wx.cell? ⟨b4, 0, none⟩ = some (Value.slice (some ⟨g4, 0, none⟩) q q) ∧ wx.cell? ⟨b4, 1, none⟩ = some (Value.int .i64 mem) ∧ wx.cell? ⟨b4, 2, none⟩ = some (Value.int .i64 st) ∧ wx.cell? ⟨b3, 0, none⟩ = some (Value.slice A3 q c3) ∧ wx.cell? ⟨b3, 1, none⟩ = some (Value.int .i64 mem) ∧ wx.cell? ⟨b3, 2, none⟩ = some (Value.int .i64 st) ∧ wx.cell? ⟨b2, 0, none⟩ = some (Value.slice A2 q c2) ∧ wx.cell? ⟨b2, 1, none⟩ = some (Value.int .i64 mem) ∧ wx.cell? ⟨b2, 2, none⟩ = some (Value.int .i64 st) ∧ wx.cell? ⟨b1, 0, none⟩ = some (Value.slice (some ⟨g1, 0, none⟩) l.length l.length) ∧ wx.cell? ⟨b1, 1, none⟩ = some (Value.int .i64 mem) ∧ wx.cell? ⟨b1, 2, none⟩ = some (Value.int .i64 st) ∧ wx.cell? ⟨w.heap.size, 0, none⟩ = some (Value.slice A l.length cap) ∧ wx.cell? ⟨w.heap.size, 1, none⟩ = some (Value.int .i64 mem) ∧ wx.cell? ⟨w.heap.size, 2, none⟩ = some (Value.int .i64 st) ∧ Sx w [(b4, 24, #[Value.slice (some ⟨g4, 0, none⟩) q q, Value.int .i64 mem, Value.int .i64 st]), (b3, 24, #[Value.slice A3 q c3, Value.int .i64 mem, Value.int .i64 st]), (b2, 24, #[Value.slice A2 q c2, Value.int .i64 mem, Value.int .i64 st]), (b1, 24, #[Value.slice (some ⟨g1, 0, none⟩) l.length l.length, Value.int .i64 mem, Value.int .i64 st]), (w.heap.size, 24, #[Value.slice A l.length cap, Value.int .i64 mem, Value.int .i64 st])] [codeF (some ⟨g4, 0, none⟩) d, codeF A3 c, codeF A2 d, codeF (some ⟨g1, 0, none⟩) a, codeF A l] wx) (first | exact HK2.out _ (Sx.drew (by assumption)) | exact HK2.out _ (by assumption)) (first | (go_at_call 42; have hS9 : Sx w [(b4, 24, #[Value.slice (some ⟨g4, 0, none⟩) q q, Value.int .i64 mem, Value.int .i64 st]), (b3, 24, #[Value.slice A3 q c3, Value.int .i64 mem, Value.int .i64 st]), (b2, 24, #[Value.slice A2 q c2, Value.int .i64 mem, Value.int .i64 st]), (b1, 24, #[Value.slice (some ⟨g1, 0, none⟩) l.length l.length, Value.int .i64 mem, Value.int .i64 st]), (w.heap.size, 24, #[Value.slice A l.length cap, Value.int .i64 mem, Value.int .i64 st])] [codeF (some ⟨g4, 0, none⟩) d, codeF A3 c, codeF A2 d, codeF (some ⟨g1, 0, none⟩) a, codeF A l] _ := (HKO.out _ (by assumption)); with_reducible refine (HC.out _ _ _ _ _ hS9.f3 hS9.f1).mono ?_; rintro e wn ⟨rfl, hB⟩; have hS8 := Sx.call hB hS9; clear hB) | (go_at_call 44; have hS9 : Sx w [(b4, 24, #[Value.slice (some ⟨g4, 0, none⟩) q q, Value.int .i64 mem, Value.int .i64 st]), (b3, 24, #[Value.slice A3 q c3, Value.int .i64 mem, Value.int .i64 st]), (b2, 24, #[Value.slice A2 q c2, Value.int .i64 mem, Value.int .i64 st]), (b1, 24, #[Value.slice (some ⟨g1, 0, none⟩) l.length l.length, Value.int .i64 mem, Value.int .i64 st]), (w.heap.size, 24, #[Value.slice A l.length cap, Value.int .i64 mem, Value.int .i64 st])] [codeF (some ⟨g4, 0, none⟩) d, codeF A3 c, codeF A2 d, codeF (some ⟨g1, 0, none⟩) a, codeF A l] _ := (HKO.out _ (by assumption)); with_reducible refine (HR1.out _ _ hS9.f4).mono ?_; rintro e wn ⟨rfl, hB⟩; have hS8 := Sx.call hB hS9; clear hB) | (go_at_call 44; have hS9 : Sx w [(b4, 24, #[Value.slice (some ⟨g4, 0, none⟩) q q, Value.int .i64 mem, Value.int .i64 st]), (b3, 24, #[Value.slice A3 q c3, Value.int .i64 mem, Value.int .i64 st]), (b2, 24, #[Value.slice A2 q c2, Value.int .i64 mem, Value.int .i64 st]), (b1, 24, #[Value.slice (some ⟨g1, 0, none⟩) l.length l.length, Value.int .i64 mem, Value.int .i64 st]), (w.heap.size, 24, #[Value.slice A l.length cap, Value.int .i64 mem, Value.int .i64 st])] [codeF (some ⟨g4, 0, none⟩) d, codeF A3 c, codeF A2 d, codeF (some ⟨g1, 0, none⟩) a, codeF A l] _ := (HKO.out _ (by assumption)); with_reducible refine (HR2.out _ hS9.f5).mono ?_; rintro e wn ⟨rfl, hB⟩; have hS8 := Sx.call hB hS9; clear hB))
  all_goals go_wp2_with fail
  all_goals go_ret
  all_goals exact ⟨rfl, hS8.below⟩

end Go.Proofs.Yteonkfdmkgjpaaa
