/- What the laws of layer 32 share: the examples of the chapter. -/
import Derived.Test.YteonkfdmkgjpaaaPeeW3
import Derived.Test.YteonkfdmkgjpaaaImgA
import Derived.Deep.RegionHeld3
import Derived.Deep.DeepCutAuto
import Derived.BigQuiet
import Derived.Deep.QuietTactic
import Derived.BigRegion
import Derived.Deep.CutBlock
namespace Go.Proofs.Yteonkfdmkgjpaaa
open Go.RowKit
set_option linter.unusedVariables false
set_option linter.unusedSimpArgs false

namespace Pee
def ex1 : List Ins := [⟨4, 1, 5, 0, 0⟩, ⟨5, 1, 5, 0, 0⟩, ⟨34, 0, 0, 0, 0⟩]
def ex1' : List Ins := [⟨34, 0, 0, 0, 0⟩]
def ex2 : List Ins := [⟨4, 1, 5, 0, 0⟩, ⟨4, 2, 1, 0, 0⟩, ⟨5, 2, 1, 0, 0⟩, ⟨5, 1, 5, 0, 0⟩]
def ex2' : List Ins := []
def ex3 : List Ins := [⟨21, 1, 14, 0, 0⟩, ⟨21, 1, 14, 0, 0⟩]
def ex3' : List Ins := [⟨21, 1, 14, 0, 0⟩, ⟨21, 1, 14, 0, 0⟩]
theorem ex1_opt : opt ex1 = ex1' := by decide
theorem ex2_opt : opt ex2 = ex2' := by decide
theorem ex3_opt : opt ex3 = ex3' := by decide
end Pee
theorem popt_ex (l x : List Ins) (n q cap : Nat) (mem st : Int) (hn : l.length = n) (hv : Img.valid l mem st = true) (hx : Pee.opt l = x) (hq : x.length = q) (A : Option Addr) (w : World) (hc : CodeAt w A l) :
    Calls Try.prog 41 #[.agg #[.slice A n cap, .int .i64 mem, .int .i64 st]] w fun e w' => ∃ A2 c2, e = .returned (.tuple #[.agg #[.slice A2 q c2, .int .i64 mem, .int .i64 st], .int .i64 0]) ∧ Below w.heap.size w w' ∧ CodeAt w' A2 x := by
  subst hn hx hq
  refine (poptimize_good l A cap mem st w hc hv).mono ?_
  rintro e w' ⟨v, rfl, hB, ho⟩
  obtain ⟨A2, c2, rfl, h2⟩ := code_of_own ho
  exact ⟨A2, c2, rfl, hB, h2⟩
set_option maxHeartbeats 8000000 in
set_option maxRecDepth 100000 in
theorem peeAwake_any (w : World) : Calls Try.prog 37 #[] w fun e w' => e = .returned (.bool true) ∧ Below w.heap.size w w' := by
  have HO1 := Lib.hid (fun A cap wx h => popt_ex Pee.ex1 Pee.ex1' 3 1 cap 0 1 rfl (by decide) Pee.ex1_opt rfl A wx h)
  have HO2 := Lib.hid (fun A cap wx h => popt_ex Pee.ex2 Pee.ex2' 4 0 cap 0 1 rfl (by decide) Pee.ex2_opt rfl A wx h)
  have HO3 := Lib.hid (fun A cap wx h => popt_ex Pee.ex3 Pee.ex3' 2 2 cap 0 1 rfl (by decide) Pee.ex3_opt rfl A wx h)
  have HC1 := Lib.hid (fun wx => pcancels_ex ⟨4, 1, 5, 0, 0⟩ ⟨5, 1, 5, 0, 0⟩ true (by decide) wx)
  have HC2 := Lib.hid (fun wx => pcancels_ex ⟨21, 1, 14, 0, 0⟩ ⟨21, 1, 14, 0, 0⟩ false (by decide) wx)
  have hS : Sx w [] [] w :=  (Sx.start (F := []) w (fun _ h => by cases h))
  have hc : True := trivial
  go_enter Try.func37, Try.ntmps37
  go_upto_region 4 with fail
  apply wp_abs (w0 := w)
  · (repeat (first | with_reducible apply Sx.alloc | with_reducible apply Sx.drew | with_reducible apply Sx.drewN | with_reducible exact hS))
  intro wx hS2; clear hS; have hS := hS2; clear hS2; (try simp only [World.size_alloc, World.size_drew] at hS)
  clear hc; have hc := hS.cellsL; simp only [CellsL, CellsF, Nat.zero_add, Nat.reduceAdd, and_true, true_and] at hc
  go_upto_region 5 with (first | (go_at_call 41; apply calls_abs (w0 := w); (repeat (first | with_reducible apply Sx.alloc | with_reducible apply Sx.drew | with_reducible apply Sx.drewN | with_reducible exact hS)); intro wx hS2; clear hS; have hS := hS2; clear hS2; (try simp only [World.size_alloc, World.size_drew] at hS); refine (HO1.out _ _ _ (CodeB.at_ (carr_code (l := Pee.ex1) hS.1.b1))).mono ?_; rintro e wn ⟨A1, c1, rfl, hB, h1⟩; replace hS := Sx.callF (f := codeF A1 Pee.ex1') hB (h1) hS; clear hB; clear hc; have hc := hS.cellsL; simp only [CellsL, CellsF, Nat.zero_add, Nat.reduceAdd, and_true, true_and] at hc; obtain ⟨b1, hb1⟩ : ∃ q, wn.heap.size = q := ⟨_, rfl⟩; simp only [hb1] at hc))
  apply wp_abs (w0 := w)
  · (repeat (first | with_reducible apply Sx.alloc | with_reducible apply Sx.drew | with_reducible apply Sx.drewN | with_reducible exact hS))
  intro wx hS2; clear hS; have hS := hS2; clear hS2; (try simp only [World.size_alloc, World.size_drew] at hS)
  clear hc; have hc := hS.cellsL; simp only [CellsL, CellsF, Nat.zero_add, Nat.reduceAdd, and_true, true_and] at hc
  simp only [hb1] at hS hc
  go_upto_region 6 with (first | (go_at_call 41; apply calls_abs (w0 := w); (repeat (first | with_reducible apply Sx.alloc | with_reducible apply Sx.drew | with_reducible apply Sx.drewN | with_reducible exact hS)); intro wx hS2; clear hS; have hS := hS2; clear hS2; (try simp only [World.size_alloc, World.size_drew] at hS); refine (HO2.out _ _ _ (CodeB.at_ (carr_code (l := Pee.ex2) hS.1.b1))).mono ?_; rintro e wn ⟨A2, c2, rfl, hB, h2⟩; replace hS := Sx.callF (f := codeF A2 Pee.ex2') hB (h2) hS; clear hB; clear hc; have hc := hS.cellsL; simp only [CellsL, CellsF, Nat.zero_add, Nat.reduceAdd, and_true, true_and] at hc; obtain ⟨b2, hb2⟩ : ∃ q, wn.heap.size = q := ⟨_, rfl⟩; simp only [hb2] at hc))
  apply wp_abs (w0 := w)
  · (repeat (first | with_reducible apply Sx.alloc | with_reducible apply Sx.drew | with_reducible apply Sx.drewN | with_reducible exact hS))
  intro wx hS2; clear hS; have hS := hS2; clear hS2; (try simp only [World.size_alloc, World.size_drew] at hS)
  clear hc; have hc := hS.cellsL; simp only [CellsL, CellsF, Nat.zero_add, Nat.reduceAdd, and_true, true_and] at hc
  simp only [hb1, hb2] at hS hc
  go_upto_region 7 with (first | (go_at_call 41; apply calls_abs (w0 := w); (repeat (first | with_reducible apply Sx.alloc | with_reducible apply Sx.drew | with_reducible apply Sx.drewN | with_reducible exact hS)); intro wx hS2; clear hS; have hS := hS2; clear hS2; (try simp only [World.size_alloc, World.size_drew] at hS); refine (HO3.out _ _ _ (CodeB.at_ (carr_code (l := Pee.ex3) hS.1.b1))).mono ?_; rintro e wn ⟨A3, c3, rfl, hB, h3⟩; replace hS := Sx.callF (f := codeF A3 Pee.ex3') hB (h3) hS; clear hB; clear hc; have hc := hS.cellsL; simp only [CellsL, CellsF, Nat.zero_add, Nat.reduceAdd, and_true, true_and] at hc; obtain ⟨b3, hb3⟩ : ∃ q, wn.heap.size = q := ⟨_, rfl⟩; simp only [hb3] at hc))
  apply wp_abs (w0 := w)
  · (repeat (first | with_reducible apply Sx.alloc | with_reducible apply Sx.drew | with_reducible apply Sx.drewN | with_reducible exact hS))
  intro wx hS2; clear hS; have hS := hS2; clear hS2; (try simp only [World.size_alloc, World.size_drew] at hS)
  clear hc; have hc := hS.cellsL; simp only [CellsL, CellsF, Nat.zero_add, Nat.reduceAdd, and_true, true_and] at hc
  simp only [hb1, hb2, hb3] at hS hc
  obtain ⟨ba, oa, rfl⟩ := CodeAt.some hS.f3 (by decide)
  obtain ⟨hba, x0, x1, x2, x3, x4⟩ := CodeAt.cells hS.f3 (i := 0) (by decide)
  have x9 : wx.cell? ⟨ba, oa, none⟩ = some (Value.int .u8 34) := x0
  clear x0 x1 x2 x3 x4
  have T1 : True := trivial
  have T2 : True := trivial
  go_wp2_with (first | (go_at_call 38; have _t := T1; clear T1 _t; apply calls_abs (w0 := w); (repeat (first | with_reducible apply Sx.alloc | with_reducible apply Sx.drew | with_reducible apply Sx.drewN | with_reducible exact hS)); intro wx hS2; clear hS; have hS := hS2; clear hS2; (try simp only [World.size_alloc, World.size_drew] at hS); refine (HC1.out _).mono ?_; rintro e wn ⟨rfl, hB⟩; replace hS := Sx.call hB hS; clear hB; clear hc; have hc := hS.cellsL; simp only [CellsL, CellsF, Nat.zero_add, Nat.reduceAdd, and_true, true_and] at hc) | (go_at_call 38; have _t := T2; clear T2 _t; apply calls_abs (w0 := w); (repeat (first | with_reducible apply Sx.alloc | with_reducible apply Sx.drew | with_reducible apply Sx.drewN | with_reducible exact hS)); intro wx hS2; clear hS; have hS := hS2; clear hS2; (try simp only [World.size_alloc, World.size_drew] at hS); refine (HC2.out _).mono ?_; rintro e wn ⟨rfl, hB⟩; replace hS := Sx.call hB hS; clear hB; clear hc; have hc := hS.cellsL; simp only [CellsL, CellsF, Nat.zero_add, Nat.reduceAdd, and_true, true_and] at hc))
  go_ret
  exact ⟨rfl, hS.below⟩

end Go.Proofs.Yteonkfdmkgjpaaa
