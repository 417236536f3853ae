/- Words for memory: a store into a box of the call's own; a row of numbers that lies elsewhere. -/
import Derived.Test.YteonkfdmkgjpaaaAuto
import Derived.Test.YteonkfdmkgjpaaaCode2
namespace Go.Proofs.Yteonkfdmkgjpaaa
open Go.RowKit
set_option linter.unusedVariables false
theorem Sx.set1 {w0 W : World} {g : Nat} {t : TypeId} {cs : Array Value} {L : List (Nat × TypeId × Array Value)} {F : List WF} (h : Sx w0 ((g, t, cs) :: L) F W) (hg : w0.heap.size ≤ g) (hL : ∀ y ∈ L, y.1 ≠ g) (hF : ∀ f ∈ F, Far g f) (i : Nat) (v : Value) :
    Sx w0 ((g, t, cs.setIfInBounds i v) :: L) F (W.setCell ⟨g, i, none⟩ v) := ⟨h.1.set1 hg hL i v, fun f hf => hF f hf _ _ v rfl (h.2 f hf)⟩
end Go.Proofs.Yteonkfdmkgjpaaa
