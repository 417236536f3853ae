/- Contracts of the reference of layer 23: Invert. -/
import Derived.Test.YteonkfdmkgjpaaaCode4
import Derived.Test.YteonkfdmkgjpaaaImgR5
import Derived.Deep.RegionHeld3
import Derived.Deep.DeepCutAuto
import Derived.BigQuiet
import Derived.Deep.QuietTactic
import Derived.BigRegion
import Derived.Deep.CutBlock
namespace Go.Proofs.Yteonkfdmkgjpaaa
open Go.RowKit
set_option linter.unusedVariables false
set_option linter.unusedSimpArgs false

theorem CRow.below {W W' : World} {base : Nat} {v : Value} {ls : List Ins} (h : CRow W base v ls) (hB : Below W.heap.size W W') : CRow W' base v ls := by
  refine h.kept (row := none) ⟨hB.os, hB.tape, hB.output, hB.size, fun k hk _ => hB.block k hk⟩ ?_
  cases v.ownBlock
  · exact .inl rfl
  · exact .inr (by simp)
theorem CRow.setCell {W : World} {base : Nat} {v : Value} {ls : List Ins} (h : CRow W base v ls) (p : Addr) (hp : p.block < base ∨ W.heap.size ≤ p.block) (u : Value) : CRow (W.setCell p u) base v ls := by
  obtain ⟨h1, hn | ⟨g, cap, cur, rfl, hb, hg, rest⟩⟩ := h
  · exact ⟨h1, .inl hn⟩
  · have hl := (Array.getElem?_eq_some_iff.1 hg).1
    exact ⟨h1, .inr ⟨g, cap, cur, rfl, hb, (Below.heap_setCell W p u g (by omega)).trans hg, rest⟩⟩
/-- the inverse's code, m rounds done -/
def Img.invP (l : List Ins) (m : Nat) : List Ins := (List.range m).map fun k => invAt l (l.length - 1 - k)
theorem Img.invP_step (l : List Ins) (m : Nat) : invP l (m + 1) = invP l m ++ [invAt l (l.length - 1 - m)] := by
  unfold invP
  rw [List.range_succ, List.map_append]
  rfl
theorem Img.invP_length (l : List Ins) (m : Nat) : (invP l m).length = m := by simp [invP]
theorem Img.invP_all (l : List Ins) : invP l l.length = invert l := by
  apply list_at_ext (by rw [invP_length, invert_length])
  intro k hk
  rw [invP_length] at hk
  rw [invert_at l k hk]
  unfold at_ invP
  rw [List.getD_eq_getElem?_getD, List.getElem?_map, List.getElem?_range hk]
  rfl
namespace Img
/-- the ways of the reference's switch, on an instruction of a valid image -/
theorem ref_cases {l : List Ins} {i : Nat} (h : fault l i = 0) :
    (((Isa.inv (at_ l i).op == 30) || (Isa.inv (at_ l i).op == 31)) = true ∧ 0 ≤ (at_ l i).a ∧ (at_ l i).a < l.length ∧ ∃ q, partner l (at_ l i).a.toNat = some q ∧ invAt l i = ⟨Isa.inv (at_ l i).op, (l.length : Int) - 1 - q, (at_ l i).b, (at_ l i).c, (at_ l i).d⟩) ∨
    (((Isa.inv (at_ l i).op == 30) || (Isa.inv (at_ l i).op == 31)) = false ∧ 0 ≤ rt (inv (at_ l i)) ∧ ((Isa.inv (at_ l i).op == 22) || (Isa.inv (at_ l i).op == 25) || (Isa.inv (at_ l i).op == 32) || (Isa.inv (at_ l i).op == 33)) = true ∧ 0 ≤ (at_ l i).a ∧ (at_ l i).a < 65536 ∧
      invAt l i = ⟨Isa.inv (at_ l i).op, (l.length : Int) - 1 - (at_ l i).a, (at_ l i).b, (at_ l i).c, (at_ l i).d⟩) ∨
    (((Isa.inv (at_ l i).op == 30) || (Isa.inv (at_ l i).op == 31)) = false ∧ 0 ≤ rt (inv (at_ l i)) ∧ ((Isa.inv (at_ l i).op == 22) || (Isa.inv (at_ l i).op == 25) || (Isa.inv (at_ l i).op == 32) || (Isa.inv (at_ l i).op == 33)) = false ∧ 0 ≤ (at_ l i).b ∧ (at_ l i).b < 65536 ∧
      invAt l i = ⟨Isa.inv (at_ l i).op, (at_ l i).a, (l.length : Int) - 1 - (at_ l i).b, (at_ l i).c, (at_ l i).d⟩) ∨
    (((Isa.inv (at_ l i).op == 30) || (Isa.inv (at_ l i).op == 31)) = false ∧ rt (inv (at_ l i)) < 0 ∧ invAt l i = ⟨Isa.inv (at_ l i).op, (at_ l i).a, (at_ l i).b, (at_ l i).c, (at_ l i).d⟩) := by
  obtain ⟨hv, ht, hc⟩ := fault_inv h
  unfold invAt
  generalize at_ l i = x at *
  rcases Isa.row_range x.op with ⟨n, hn⟩ | h0
  · have hall : ∀ n : Fin 35,
        ((((Isa.inv (n.val : Int)) == 30 || (Isa.inv (n.val : Int)) == 31) = true ∧ ((n.val : Int) == 30 || (n.val : Int) == 31) = true ∧ Isa.tgt (n.val : Int) = some 0) ∨
         (((Isa.inv (n.val : Int)) == 30 || (Isa.inv (n.val : Int)) == 31) = false ∧ ((n.val : Int) == 30 || (n.val : Int) == 31) = false ∧ ((Isa.inv (n.val : Int)) == 22 || (Isa.inv (n.val : Int)) == 25 || (Isa.inv (n.val : Int)) == 32 || (Isa.inv (n.val : Int)) == 33) = true ∧ Isa.tgt (n.val : Int) = some 0 ∧ Isa.tgt (Isa.inv (n.val : Int)) = some 0) ∨
         (((Isa.inv (n.val : Int)) == 30 || (Isa.inv (n.val : Int)) == 31) = false ∧ ((n.val : Int) == 30 || (n.val : Int) == 31) = false ∧ ((Isa.inv (n.val : Int)) == 22 || (Isa.inv (n.val : Int)) == 25 || (Isa.inv (n.val : Int)) == 32 || (Isa.inv (n.val : Int)) == 33) = false ∧ Isa.tgt (n.val : Int) = some 1 ∧ Isa.tgt (Isa.inv (n.val : Int)) = some 1) ∨
         (((Isa.inv (n.val : Int)) == 30 || (Isa.inv (n.val : Int)) == 31) = false ∧ ((n.val : Int) == 30 || (n.val : Int) == 31) = false ∧ Isa.tgt (n.val : Int) = none ∧ Isa.tgt (Isa.inv (n.val : Int)) = none)) := by decide
    unfold has tg Isa.tval at ht
    unfold tg Isa.tval isC at hc
    simp only [has, tg, Isa.tval, isC, ret, Isa.reA, Isa.reB, inv, rt]
    simp only [hn] at ht hc ⊢
    rcases hall n with ⟨h1, h2, h3⟩ | ⟨h1, h2, h3, h4, h5⟩ | ⟨h1, h2, h3, h4, h5⟩ | ⟨h1, h2, h3, h4⟩
    · left
      simp only [h1, h2, h3] at ht hc ⊢
      obtain ⟨q, hq, hl⟩ := hc trivial
      have hb := ht rfl
      simp only [if_pos] at hq hl hb
      exact ⟨trivial, hb.1, hl, q, hq, by simp [hq, num, hn]⟩
    · right; left
      simp only [h1, h2, h3, h4, h5] at ht hc ⊢
      have hb := ht rfl
      simp only [if_pos] at hb
      exact ⟨trivial, by simp [hb.1], trivial, hb.1, hb.2, by simp [hn]⟩
    · right; right; left
      simp only [h1, h2, h3, h4, h5] at ht hc ⊢
      have hb := ht rfl
      simp at hb
      exact ⟨trivial, by simp [hb.1], trivial, hb.1, hb.2, by simp [hn]⟩
    · right; right; right
      simp only [h1, h2, h3, h4]
      exact ⟨trivial, by simp, by simp [hn]⟩
  · exfalso
    unfold vl Isa.vld at hv
    rw [h0] at hv
    simp at hv
end Img
theorem ref_grown {w w9 w10 : World} {g : Nat} {b o cap : Nat} {mem st : Int} {l : List Ins} {A : Option Addr} {v : Value} {cs cs' : Array Value} {t' : TypeId} {ls : List Ins} (hS9 : St w ((g, 38, cs) :: [(w.heap.size + 2, 24, #[v, .int .i64 mem, .int .i64 st]), (w.heap.size + 1, 24, #[.slice none 0 0, .int .i64 0, .int .i64 0]), (w.heap.size, 24, #[.slice A l.length cap, .int .i64 mem, .int .i64 st])]) w9) (hown : CRow w9 (w.heap.size + 3) v ls)
    (hg : (w9.alloc (.cells cs' t')).grownBy w10 v.ownBlock) : St w [(w.heap.size + 2, 24, #[v, .int .i64 mem, .int .i64 st]), (w.heap.size + 1, 24, #[.slice none 0 0, .int .i64 0, .int .i64 0]), (w.heap.size, 24, #[.slice A l.length cap, .int .i64 mem, .int .i64 st])] w10 := by
  have hlt := hown.lt
  refine St.grown ((hS9.tail.alloc cs' t').tail) hg (fun k hk => by have := (hlt k hk).1; omega) (fun x hx => ?_)
  simp at hx
  intro e
  have h9 := (hlt _ e.symm).1
  rcases hx with rfl | rfl | rfl <;> simp at h9 <;> omega
def RefRel (l : List Ins) (w : World) (A : Option Addr) (cap : Nat) (mem st : Int) (s : Nat) (wr : World) : Prop :=
  s ≤ l.length ∧ ∃ v, St w [(w.heap.size + 2, 24, #[v, .int .i64 mem, .int .i64 st]), (w.heap.size + 1, 24, #[.slice none 0 0, .int .i64 0, .int .i64 0]), (w.heap.size, 24, #[.slice A l.length cap, .int .i64 mem, .int .i64 st])] wr ∧ CRow wr (w.heap.size + 3) v (Img.invP l (l.length - s))
theorem ref_round {w w10 : World} {cap : Nat} {mem st : Int} {l : List Ins} {A : Option Addr} {v v' : Value} {i : Nat} {y : Ins} {n : Nat} (hil : i < l.length) (hy : y = Img.invAt l i) (hSA : St w [(w.heap.size + 2, 24, #[v, .int .i64 mem, .int .i64 st]), (w.heap.size + 1, 24, #[.slice none 0 0, .int .i64 0, .int .i64 0]), (w.heap.size, 24, #[.slice A l.length cap, .int .i64 mem, .int .i64 st])] w10)
    (hown : w10.ownsRow (w.heap.size + 3) 38 5 v' n (codeL (Img.invP l (l.length - (i + 1))) ++ [.int .u8 y.op, .int .i64 y.a, .int .i64 y.b, .int .i64 y.c, .int .i64 y.d])) (hn : n = (Img.invP l (l.length - (i + 1))).length + 1) :
    RefRel l w A cap mem st i (w10.setCell ⟨w.heap.size + 2, 0, none⟩ v') := by
  refine ⟨Nat.le_of_lt hil, v', hSA.set1 (by omega) (by intro z hz; simp at hz; rcases hz with rfl | rfl <;> simp) 0 v', ?_⟩
  refine CRow.setCell ?_ _ (.inl (by simp)) v'
  have e : Img.invP l (l.length - i) = Img.invP l (l.length - (i + 1)) ++ [y] := by
    rw [show l.length - i = (l.length - (i + 1)) + 1 from by omega, Img.invP_step, hy]
    congr 3
    omega
  rw [codeL_append] at hown
  unfold CRow
  rw [e, List.length_append, List.length_singleton, ← hn]
  exact hown
end Go.Proofs.Yteonkfdmkgjpaaa
