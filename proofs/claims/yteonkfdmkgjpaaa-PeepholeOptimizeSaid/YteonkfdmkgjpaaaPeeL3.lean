/- The walks of the laws of layer 32: PeepholeOptimize. -/
import Derived.Test.YteonkfdmkgjpaaaPeeS
import Derived.Deep.RegionHeld3
import Derived.Deep.DeepCutAuto
import Derived.BigQuiet
import Derived.Deep.QuietTactic
import Derived.BigRegion
import Derived.Deep.CutBlock
namespace Go.Proofs.Yteonkfdmkgjpaaa
open Go.RowKit
set_option linter.unusedVariables false
set_option linter.unusedSimpArgs false

set_option maxHeartbeats 16000000 in
set_option maxRecDepth 100000 in
theorem peepholeOptimize_walk (l : List Ins) (A : Option Addr) (cap : Nat) (mem st : Int) (w : World) (hA : CodeAt w A l) (hok : InsOk l) (hml : l.length ≤ maxLen) :
    Calls Try.prog 14 #[.agg #[.slice A l.length cap, .int .i64 mem, .int .i64 st]] w fun e w' => e = .returned (.bool true) ∧ Below w.heap.size w w' := by
  cases hs : (decide (l.length ≤ 90) && Img.valid l mem st)
  · clear hok hml
    have HSM := Lib.hid (fun wx h => small_any l A cap mem st false hs wx h)
    clear hs
    have hS : Sx w [] [codeF A l] w := (Sx.add (f := codeF A l) (hA) (Sx.start (F := []) w (fun _ h => by cases h)))
    have hc : True := trivial
    go_enter Try.func14, Try.ntmps14
    go_wp2_with (first | (go_at_call 37; apply calls_abs (w0 := w); (repeat (first | with_reducible apply Sx.alloc | with_reducible apply Sx.drew | with_reducible apply Sx.drewN | with_reducible exact hS)); intro wx hS2; clear hS; have hS := hS2; clear hS2; (try simp only [World.size_alloc, World.size_drew] at hS); refine (peeAwake_any _).mono ?_; rintro e wn ⟨rfl, hB⟩; replace hS := Sx.call hB hS; clear hB; clear hc; have hc := hS.cellsL; simp only [CellsL, CellsF, Nat.zero_add, Nat.reduceAdd, and_true, true_and] at hc) | (go_at_call 40; apply calls_abs (w0 := w); (repeat (first | with_reducible apply Sx.alloc | with_reducible apply Sx.drew | with_reducible apply Sx.drewN | with_reducible exact hS)); intro wx hS2; clear hS; have hS := hS2; clear hS2; (try simp only [World.size_alloc, World.size_drew] at hS); refine (HSM.out _ hS.f1).mono ?_; rintro e wn ⟨rfl, hB⟩; replace hS := Sx.call hB hS; clear hB; clear hc; have hc := hS.cellsL; simp only [CellsL, CellsF, Nat.zero_add, Nat.reduceAdd, and_true, true_and] at hc))
    go_ret
    exact ⟨rfl, hS.below⟩
  have hs2 : l.length ≤ 90 ∧ Img.valid l mem st = true := by simpa using hs
  obtain ⟨hl9, hv⟩ := hs2
  have hOk := Img.valid_ok hv
  have HSM := Lib.hid (fun wx h => small_any l A cap mem st true hs wx h)
  clear hs hok hml
  obtain ⟨x, hx⟩ : ∃ x, Pee.opt l = x := ⟨_, rfl⟩
  obtain ⟨q, hq⟩ : ∃ q, x.length = q := ⟨_, rfl⟩
  have hle := Pee.opt_le l
  rw [hx, hq] at hle
  have HO := Lib.hid (fun wx h => popt_ex l x l.length q cap mem st rfl hv hx hq A wx h)
  have HR := Lib.hid (fun wx h => roptimize_ex l x l.length q rfl A cap wx hOk hx hq h)
  have HC := Lib.hid (fun A1 A2 c1 c2 wx h h' => codes_ex x x A1 A2 q q c1 c2 true hq hq (by simp) (by omega) wx h h')
  have HRM := Lib.hid (fun wx h => removed_ex l A l.length cap mem st ((l.length : Int) - (q : Int)) wx rfl hv (by rw [hx, hq]) h)
  have o1 : IntKind.i64.wrap ((l.length : Int) - (q : Int)) = (l.length : Int) - (q : Int) := Go.IntWalk.i64_in _ (by omega)
  clear hx hq hOk hv hle hl9
  have hS : Sx w [] [codeF A l] w := (Sx.add (f := codeF A l) (hA) (Sx.start (F := []) w (fun _ h => by cases h)))
  have hc : True := trivial
  go_enter Try.func14, Try.ntmps14
  go_upto_region 4 with (first | (go_at_call 37; apply calls_abs (w0 := w); (repeat (first | with_reducible apply Sx.alloc | with_reducible apply Sx.drew | with_reducible apply Sx.drewN | with_reducible exact hS)); intro wx hS2; clear hS; have hS := hS2; clear hS2; (try simp only [World.size_alloc, World.size_drew] at hS); refine (peeAwake_any _).mono ?_; rintro e wn ⟨rfl, hB⟩; replace hS := Sx.call hB hS; clear hB; clear hc; have hc := hS.cellsL; simp only [CellsL, CellsF, Nat.zero_add, Nat.reduceAdd, and_true, true_and] at hc) | (go_at_call 40; apply calls_abs (w0 := w); (repeat (first | with_reducible apply Sx.alloc | with_reducible apply Sx.drew | with_reducible apply Sx.drewN | with_reducible exact hS)); intro wx hS2; clear hS; have hS := hS2; clear hS2; (try simp only [World.size_alloc, World.size_drew] at hS); refine (HSM.out _ hS.f1).mono ?_; rintro e wn ⟨rfl, hB⟩; replace hS := Sx.call hB hS; clear hB; clear hc; have hc := hS.cellsL; simp only [CellsL, CellsF, Nat.zero_add, Nat.reduceAdd, and_true, true_and] at hc) | (go_at_call 41; apply calls_abs (w0 := w); (repeat (first | with_reducible apply Sx.alloc | with_reducible apply Sx.drew | with_reducible apply Sx.drewN | with_reducible exact hS)); intro wx hS2; clear hS; have hS := hS2; clear hS2; (try simp only [World.size_alloc, World.size_drew] at hS); refine (HO.out _ hS.f1).mono ?_; rintro e wn ⟨A2, c2, rfl, hB, h2⟩; replace hS := Sx.callF (f := codeF A2 x) hB (h2) hS; clear hB; clear hc; have hc := hS.cellsL; simp only [CellsL, CellsF, Nat.zero_add, Nat.reduceAdd, and_true, true_and] at hc; obtain ⟨b1, hb1⟩ : ∃ q, wn.heap.size = q := ⟨_, rfl⟩; simp only [hb1] at hc))
  apply wp_abs (w0 := w)
  · (repeat (first | with_reducible apply Sx.alloc | with_reducible apply Sx.drew | with_reducible apply Sx.drewN | with_reducible exact hS))
  intro wx hS2; clear hS; have hS := hS2; clear hS2; (try simp only [World.size_alloc, World.size_drew] at hS)
  clear hc; have hc := hS.cellsL; simp only [CellsL, CellsF, Nat.zero_add, Nat.reduceAdd, and_true, true_and] at hc
  simp only [hb1] at hS hc ⊢
  go_upto_region 5 with (first | (go_at_call 43; apply calls_abs (w0 := w); (repeat (first | with_reducible apply Sx.alloc | with_reducible apply Sx.drew | with_reducible apply Sx.drewN | with_reducible exact hS)); intro wx hS2; clear hS; have hS := hS2; clear hS2; (try simp only [World.size_alloc, World.size_drew] at hS); refine (HR.out _ hS.f2).mono ?_; rintro e wn ⟨A3, c3, rfl, hB, h3⟩; replace hS := Sx.callF (f := codeF A3 x) hB (h3) hS; clear hB; clear hc; have hc := hS.cellsL; simp only [CellsL, CellsF, Nat.zero_add, Nat.reduceAdd, and_true, true_and] at hc))
  apply wp_abs (w0 := w)
  · (repeat (first | with_reducible apply Sx.alloc | with_reducible apply Sx.drew | with_reducible apply Sx.drewN | with_reducible exact hS))
  intro wx hS2; clear hS; have hS := hS2; clear hS2; (try simp only [World.size_alloc, World.size_drew] at hS)
  clear hc; have hc := hS.cellsL; simp only [CellsL, CellsF, Nat.zero_add, Nat.reduceAdd, and_true, true_and] at hc
  clear hb1 HSM HO HR
  have HK2 := Lib.hid (show ∀ wx : World, Sx w [(b1, 24, #[Value.slice A2 q c2, Value.int .i64 mem, Value.int .i64 st]), (w.heap.size, 24, #[Value.slice A l.length cap, Value.int .i64 mem, Value.int .i64 st])] [codeF A3 x, codeF A2 x, codeF A l] wx → (wx.cell? ⟨b1, 0, none⟩ = some (Value.slice A2 q c2) ∧ wx.cell? ⟨b1, 1, none⟩ = some (Value.int .i64 mem) ∧ wx.cell? ⟨b1, 2, none⟩ = some (Value.int .i64 st) ∧ wx.cell? ⟨w.heap.size, 0, none⟩ = some (Value.slice A l.length cap) ∧ wx.cell? ⟨w.heap.size, 1, none⟩ = some (Value.int .i64 mem) ∧ wx.cell? ⟨w.heap.size, 2, none⟩ = some (Value.int .i64 st) ∧ Sx w [(b1, 24, #[Value.slice A2 q c2, Value.int .i64 mem, Value.int .i64 st]), (w.heap.size, 24, #[Value.slice A l.length cap, Value.int .i64 mem, Value.int .i64 st])] [codeF A3 x, codeF A2 x, codeF A l] wx) from fun wx h => by
    have c := h.cellsL
    simp only [CellsL, CellsF, Nat.zero_add, Nat.reduceAdd, and_true, true_and] at c
    simp [c, h])
  have HKO := Lib.hid (fun (wx : World) (h : wx.cell? ⟨b1, 0, none⟩ = some (Value.slice A2 q c2) ∧ wx.cell? ⟨b1, 1, none⟩ = some (Value.int .i64 mem) ∧ wx.cell? ⟨b1, 2, none⟩ = some (Value.int .i64 st) ∧ wx.cell? ⟨w.heap.size, 0, none⟩ = some (Value.slice A l.length cap) ∧ wx.cell? ⟨w.heap.size, 1, none⟩ = some (Value.int .i64 mem) ∧ wx.cell? ⟨w.heap.size, 2, none⟩ = some (Value.int .i64 st) ∧ Sx w [(b1, 24, #[Value.slice A2 q c2, Value.int .i64 mem, Value.int .i64 st]), (w.heap.size, 24, #[Value.slice A l.length cap, Value.int .i64 mem, Value.int .i64 st])] [codeF A3 x, codeF A2 x, codeF A l] wx) => (show Sx w [(b1, 24, #[Value.slice A2 q c2, Value.int .i64 mem, Value.int .i64 st]), (w.heap.size, 24, #[Value.slice A l.length cap, Value.int .i64 mem, Value.int .i64 st])] [codeF A3 x, codeF A2 x, codeF A l] wx from h.2.2.2.2.2.2))
  have hH := HK2.out _ hS
  clear hc
  go_region_held3 (fun wx => wx.cell? ⟨b1, 0, none⟩ = some (Value.slice A2 q c2) ∧ wx.cell? ⟨b1, 1, none⟩ = some (Value.int .i64 mem) ∧ wx.cell? ⟨b1, 2, none⟩ = some (Value.int .i64 st) ∧ wx.cell? ⟨w.heap.size, 0, none⟩ = some (Value.slice A l.length cap) ∧ wx.cell? ⟨w.heap.size, 1, none⟩ = some (Value.int .i64 mem) ∧ wx.cell? ⟨w.heap.size, 2, none⟩ = some (Value.int .i64 st) ∧ Sx w [(b1, 24, #[Value.slice A2 q c2, Value.int .i64 mem, Value.int .i64 st]), (w.heap.size, 24, #[Value.slice A l.length cap, Value.int .i64 mem, Value.int .i64 st])] [codeF A3 x, codeF A2 x, codeF A l] wx) (first | exact HK2.out _ (Sx.drew (by assumption)) | exact HK2.out _ (by assumption)) (first | (go_at_call 42; have hS9 : Sx w [(b1, 24, #[Value.slice A2 q c2, Value.int .i64 mem, Value.int .i64 st]), (w.heap.size, 24, #[Value.slice A l.length cap, Value.int .i64 mem, Value.int .i64 st])] [codeF A3 x, codeF A2 x, codeF A l] _ := (HKO.out _ (by assumption)); with_reducible refine (HC.out _ _ _ _ _ hS9.f2 hS9.f1).mono ?_; rintro e wn ⟨rfl, hB⟩; have hS8 := Sx.call hB hS9; clear hB) | (go_at_call 44; have hS9 : Sx w [(b1, 24, #[Value.slice A2 q c2, Value.int .i64 mem, Value.int .i64 st]), (w.heap.size, 24, #[Value.slice A l.length cap, Value.int .i64 mem, Value.int .i64 st])] [codeF A3 x, codeF A2 x, codeF A l] _ := (HKO.out _ (by assumption)); with_reducible refine (HRM.out _ hS9.f3).mono ?_; rintro e wn ⟨rfl, hB⟩; have hS8 := Sx.call hB hS9; clear hB))
  all_goals go_wp2_with fail
  all_goals go_ret
  all_goals exact ⟨rfl, hS8.below⟩

end Go.Proofs.Yteonkfdmkgjpaaa
