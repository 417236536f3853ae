/- What the laws of layer 23 share: the examples of the chapter, the bound on the size. -/
import Derived.Test.YteonkfdmkgjpaaaImgW7
import Derived.Test.YteonkfdmkgjpaaaImgR5
import Derived.Test.YteonkfdmkgjpaaaImgPure4
import Derived.Test.YteonkfdmkgjpaaaOpen
import Derived.Test.YteonkfdmkgjpaaaAuto
import Derived.Deep.RegionHeld3
import Derived.Deep.DeepCutAuto
import Derived.BigQuiet
import Derived.Deep.QuietTactic
import Derived.BigRegion
import Derived.Deep.CutBlock
namespace Go.Proofs.Yteonkfdmkgjpaaa
open Go.RowKit
set_option linter.unusedVariables false
set_option linter.unusedSimpArgs false

def Img.exA : List Ins := [⟨22, 2, 0, 0, 0⟩, ⟨0, 0, 0, 0, 0⟩, ⟨25, 0, 0, 0, 0⟩]
def Img.exB : List Ins := [⟨30, 1, 0, 0, 0⟩, ⟨32, 2, 0, 0, 0⟩, ⟨33, 1, 0, 0, 0⟩]
def Img.exC : List Ins := [⟨32, 1, 0, 0, 0⟩, ⟨33, 0, 0, 0, 0⟩, ⟨30, 0, 0, 0, 0⟩]
theorem Img.exA_inv : Img.invert Img.exA = Img.exA := by decide
theorem Img.exB_inv : Img.invert Img.exB = Img.exC := by decide
theorem CodeB.at_ {w : World} {b : Nat} {l : List Ins} (h : CodeB w b 0 l) : CodeAt w (some ⟨b, 0, none⟩) l := fun _ => ⟨b, 0, rfl, h⟩
/-- Invert on a valid image, whose code lies in memory, in whatever world -/
theorem inv_ex (l m : List Ins) (n cap : Nat) (mem st : Int) (hn : l.length = n) (hn0 : l.length ≤ 65536) (hv : Img.valid l mem st = true) (hm : Img.invert l = m) (A : Option Addr) (w : World) (hc : CodeAt w A l) :
    Calls Try.prog 20 #[.agg #[.slice A n cap, .int .i64 mem, .int .i64 st]] w fun e w' => ∃ g', e = .returned (.tuple #[.agg #[.slice (some ⟨g', 0, none⟩) n n, .int .i64 mem, .int .i64 st], .int .i64 0]) ∧ Below w.heap.size w w' ∧ CodeB w' g' 0 m := by
  subst hn hm
  exact invert_good l _ cap mem st w hn0 hc hv
theorem same_ex (l m : List Ins) (n n' cap cap' : Nat) (mem st mem' st' : Int) (r : Bool) (hn : l.length = n) (hn' : m.length = n') (hn0 : l.length ≤ 65536) (hr : Img.same l m mem st mem' st' = r) (A A' : Option Addr) (w : World) (hc : CodeAt w A l) (hc' : CodeAt w A' m) :
    Calls Try.prog 21 #[.agg #[.slice A n cap, .int .i64 mem, .int .i64 st], .agg #[.slice A' n' cap', .int .i64 mem', .int .i64 st']] w fun e w' => e = .returned (.bool r) ∧ Below w.heap.size w w' := by
  subst hn hn' hr
  exact same_any l m _ _ cap cap' mem st mem' st' w hn0 hc hc'
theorem imgGreat_any (l : List Ins) (A : Option Addr) (cap : Nat) (mem st : Int) (w : World) :
    Calls Try.prog 19 #[.agg #[.slice A l.length cap, .int .i64 mem, .int .i64 st]] w fun e w' => e = .returned (.bool (decide (80 < l.length))) ∧ Below w.heap.size w w' := by
  go_enter Try.func19, Try.ntmps19
  go_wp2
  go_ret
  exact ⟨by simp; omega, (Below.refl _ _).alloc (Nat.le_refl _) _⟩
set_option maxHeartbeats 4000000 in
theorem imgAwake_any (w : World) : Calls Try.prog 18 #[] w fun e w' => e = .returned (.bool true) ∧ Below w.heap.size w w' := by
  have HA := Lib.hid (fun A wx h => inv_ex Img.exA Img.exA 3 3 0 1 rfl (by decide) (by decide) Img.exA_inv A wx h)
  have HB := Lib.hid (fun A wx h => inv_ex Img.exB Img.exC 3 3 0 1 rfl (by decide) (by decide) Img.exB_inv A wx h)
  have SA := Lib.hid (fun A A' wx h h' => same_ex Img.exA Img.exA 3 3 3 3 0 1 0 1 true rfl rfl (by decide) (by decide) A A' wx h h')
  have SB := Lib.hid (fun A A' wx h h' => same_ex Img.exC Img.exC 3 3 3 3 0 1 0 1 true rfl rfl (by decide) (by decide) A A' wx h h')
  have hS : Sx w [] [] w :=  (Sx.start (F := []) w (fun _ h => by cases h))
  have hc : True := trivial
  go_enter Try.func18, Try.ntmps18
  go_upto_region 3 with fail
  apply wp_abs (w0 := w)
  · (repeat (first | with_reducible apply Sx.alloc | with_reducible apply Sx.drew | with_reducible apply Sx.drewN | with_reducible exact hS))
  intro wx hS2; clear hS; have hS := hS2; clear hS2; (try simp only [World.size_alloc, World.size_drew] at hS)
  clear hc; have hc := hS.cellsL; simp only [CellsL, CellsF, Nat.zero_add, Nat.reduceAdd, and_true, true_and] at hc
  replace hS := Sx.add (f := codeF (some ⟨w.heap.size, 0, none⟩) Img.exA) (CodeB.at_ (carr_code (l := Img.exA) hS.1.b4)) hS
  replace hS := Sx.add (f := codeF (some ⟨(w.heap.size + 1 + 1), 0, none⟩) Img.exB) (CodeB.at_ (carr_code (l := Img.exB) hS.1.b2)) hS
  go_upto_region 4 with (first | (go_at_call 20; apply calls_abs (w0 := w); (repeat (first | with_reducible apply Sx.alloc | with_reducible apply Sx.drew | with_reducible apply Sx.drewN | with_reducible exact hS)); intro wx hS2; clear hS; have hS := hS2; clear hS2; (try simp only [World.size_alloc, World.size_drew] at hS); refine (HA.out _ _ (hS.f2)).mono ?_; rintro e wn ⟨g1, rfl, hB, h1⟩; replace hS := Sx.callF (f := codeF (some ⟨g1, 0, none⟩) Img.exA) hB (h1.at_) hS; clear hB; clear hc; have hc := hS.cellsL; simp only [CellsL, CellsF, Nat.zero_add, Nat.reduceAdd, and_true, true_and] at hc))
  go_upto_region 5 with (first | (go_at_call 20; apply calls_abs (w0 := w); (repeat (first | with_reducible apply Sx.alloc | with_reducible apply Sx.drew | with_reducible apply Sx.drewN | with_reducible exact hS)); intro wx hS2; clear hS; have hS := hS2; clear hS2; (try simp only [World.size_alloc, World.size_drew] at hS); refine (HB.out _ _ (hS.f2)).mono ?_; rintro e wn ⟨g1, rfl, hB, h1⟩; replace hS := Sx.callF (f := codeF (some ⟨g1, 0, none⟩) Img.exC) hB (h1.at_) hS; clear hB; clear hc; have hc := hS.cellsL; simp only [CellsL, CellsF, Nat.zero_add, Nat.reduceAdd, and_true, true_and] at hc))
  go_upto_region 6 with fail
  apply wp_abs (w0 := w)
  · (repeat (first | with_reducible apply Sx.alloc | with_reducible apply Sx.drew | with_reducible apply Sx.drewN | with_reducible exact hS))
  intro wx hS2; clear hS; have hS := hS2; clear hS2; (try simp only [World.size_alloc, World.size_drew] at hS)
  clear hc; have hc := hS.cellsL; simp only [CellsL, CellsF, Nat.zero_add, Nat.reduceAdd, and_true, true_and] at hc
  replace hS := Sx.add (f := codeF (some ⟨_, 0, none⟩) Img.exC) (CodeB.at_ (carr_code (l := Img.exC) hS.1.b2)) hS
  have T1 : True := trivial
  have T2 : True := trivial
  go_wp2_with (first | (go_at_call 21; have _t := T1; clear T1 _t; apply calls_abs (w0 := w); (repeat (first | with_reducible apply Sx.alloc | with_reducible apply Sx.drew | with_reducible apply Sx.drewN | with_reducible exact hS)); intro wx hS2; clear hS; have hS := hS2; clear hS2; (try simp only [World.size_alloc, World.size_drew] at hS); refine (SA.out _ _ _ hS.f3 hS.f5).mono ?_; rintro e wn ⟨rfl, hB⟩; replace hS := Sx.call hB hS; clear hB; clear hc; have hc := hS.cellsL; simp only [CellsL, CellsF, Nat.zero_add, Nat.reduceAdd, and_true, true_and] at hc) | (go_at_call 21; have _t := T2; clear T2 _t; apply calls_abs (w0 := w); (repeat (first | with_reducible apply Sx.alloc | with_reducible apply Sx.drew | with_reducible apply Sx.drewN | with_reducible exact hS)); intro wx hS2; clear hS; have hS := hS2; clear hS2; (try simp only [World.size_alloc, World.size_drew] at hS); refine (SB.out _ _ _ hS.f2 hS.f1).mono ?_; rintro e wn ⟨rfl, hB⟩; replace hS := Sx.call hB hS; clear hB; clear hc; have hc := hS.cellsL; simp only [CellsL, CellsF, Nat.zero_add, Nat.reduceAdd, and_true, true_and] at hc))
  go_ret
  exact ⟨rfl, hS.below⟩

end Go.Proofs.Yteonkfdmkgjpaaa
