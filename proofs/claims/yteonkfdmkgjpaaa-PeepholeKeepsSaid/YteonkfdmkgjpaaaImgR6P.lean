/- Layer 23, plain: what the reference makes of one instruction of a valid image is what image.Invert makes. A list of instructions as an owned row. -/
import Derived.Test.YteonkfdmkgjpaaaImgW7
namespace Go.Proofs.Yteonkfdmkgjpaaa
open Go.RowKit
set_option linter.unusedVariables false
namespace Img
/-- one instruction as the reference inverts it; pv: what its Partner says of the operand a -/
def refI (x : Ins) (n pv : Int) : Ins :=
  let y := inv x
  if (y.op == 30 || y.op == 31) then { y with a := n - 1 - pv }
  else if decide (0 ≤ rt y) && (y.op == 22 || y.op == 25 || y.op == 32 || y.op == 33) then { y with a := n - 1 - y.a }
  else if 0 ≤ rt y then { y with b := n - 1 - y.b } else y
theorem refI_eq {l : List Ins} {i : Nat} (h : fault l i = 0) : refI (at_ l i) l.length (num1 (partner l (at_ l i).a.toNat)) = invAt l i := by
  obtain ⟨hv, ht, hc⟩ := fault_inv h
  unfold refI invAt
  generalize at_ l i = x at *
  rcases Isa.row_range x.op with ⟨n, hn⟩ | h0
  · have hall : ∀ n : Fin 35,
        ((((Isa.inv (n.val : Int)) == 30 || (Isa.inv (n.val : Int)) == 31) = true ∧ ((n.val : Int) == 30 || (n.val : Int) == 31) = true ∧ Isa.tgt (n.val : Int) = some 0) ∨
         (((Isa.inv (n.val : Int)) == 30 || (Isa.inv (n.val : Int)) == 31) = false ∧ ((n.val : Int) == 30 || (n.val : Int) == 31) = false ∧ ((Isa.inv (n.val : Int)) == 22 || (Isa.inv (n.val : Int)) == 25 || (Isa.inv (n.val : Int)) == 32 || (Isa.inv (n.val : Int)) == 33) = true ∧ Isa.tgt (n.val : Int) = some 0 ∧ Isa.tgt (Isa.inv (n.val : Int)) = some 0) ∨
         (((Isa.inv (n.val : Int)) == 30 || (Isa.inv (n.val : Int)) == 31) = false ∧ ((n.val : Int) == 30 || (n.val : Int) == 31) = false ∧ ((Isa.inv (n.val : Int)) == 22 || (Isa.inv (n.val : Int)) == 25 || (Isa.inv (n.val : Int)) == 32 || (Isa.inv (n.val : Int)) == 33) = false ∧ Isa.tgt (n.val : Int) = some 1 ∧ Isa.tgt (Isa.inv (n.val : Int)) = some 1) ∨
         (((Isa.inv (n.val : Int)) == 30 || (Isa.inv (n.val : Int)) == 31) = false ∧ ((n.val : Int) == 30 || (n.val : Int) == 31) = false ∧ Isa.tgt (n.val : Int) = none ∧ Isa.tgt (Isa.inv (n.val : Int)) = none)) := by decide
    unfold has tg Isa.tval at ht
    unfold tg Isa.tval isC at hc
    simp only [has, tg, Isa.tval, isC, ret, Isa.reA, Isa.reB, inv, rt]
    simp only [hn] at ht hc ⊢
    rcases hall n with ⟨h1, h2, h3⟩ | ⟨h1, h2, h3, h4, h5⟩ | ⟨h1, h2, h3, h4, h5⟩ | ⟨h1, h2, h3, h4⟩
    · simp only [h1, h2, h3] at ht hc ⊢
      obtain ⟨q, hq, hl⟩ := hc trivial
      simp only [if_pos] at hq
      simp [hq, num, num1]
    · simp only [h1, h2, h3, h4, h5] at ht hc ⊢
      have := ht rfl
      simp only [if_pos] at this
      simp [this.1]
    · simp only [h1, h2, h3, h4, h5] at ht hc ⊢
      have := ht rfl
      simp at this
      simp [this.1]
    · simp only [h1, h2, h3, h4]
      simp [hn]
  · exfalso
    unfold vl Isa.vld at hv
    rw [h0] at hv
    simp at hv
end Img
end Go.Proofs.Yteonkfdmkgjpaaa
