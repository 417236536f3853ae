/- Words for memory: a list of instructions in a slice, an image by value; the caller's own boxes. -/
import Derived.Test.YteonkfdmkgjpaaaBlk
import Derived.Test.YteonkfdmkgjpaaaImgPure
import Derived.Test.YteonkfdmkgjpaaaLaw
namespace Go.Proofs.Yteonkfdmkgjpaaa
open Go.RowKit
set_option linter.unusedVariables false

def Ins.cells (x : Ins) : Array Value := #[.int .u8 x.op, .int .i64 x.a, .int .i64 x.b, .int .i64 x.c, .int .i64 x.d]
def Ins.ok (x : Ins) : Prop := U8 x.op ∧ I64 x.a ∧ I64 x.b ∧ I64 x.c ∧ I64 x.d

/-- from the cell o of block b on lie the instructions l -/
def CodeB (w : World) (b o : Nat) (l : List Ins) : Prop := b < w.heap.size ∧ ∀ i, i < l.length →
    w.cell? ⟨b, o + i * 5, none⟩ = some (.int .u8 (Img.at_ l i).op) ∧ w.cell? ⟨b, o + i * 5 + 1, none⟩ = some (.int .i64 (Img.at_ l i).a) ∧ w.cell? ⟨b, o + i * 5 + 2, none⟩ = some (.int .i64 (Img.at_ l i).b) ∧
    w.cell? ⟨b, o + i * 5 + 3, none⟩ = some (.int .i64 (Img.at_ l i).c) ∧ w.cell? ⟨b, o + i * 5 + 4, none⟩ = some (.int .i64 (Img.at_ l i).d)
theorem CodeB.after {w w' : World} {b o : Nat} {l : List Ins} (hB : Below w.heap.size w w') (h : CodeB w b o l) : CodeB w' b o l := by
  refine ⟨Nat.lt_of_lt_of_le h.1 hB.size, fun i hi => ?_⟩
  have hb := h.1
  obtain ⟨h0, h1, h2, h3, h4⟩ := h.2 i hi
  exact ⟨(hB.cell (p := ⟨b, _, none⟩) hb).trans h0, (hB.cell (p := ⟨b, _, none⟩) hb).trans h1, (hB.cell (p := ⟨b, _, none⟩) hb).trans h2, (hB.cell (p := ⟨b, _, none⟩) hb).trans h3, (hB.cell (p := ⟨b, _, none⟩) hb).trans h4⟩
/-- the slice (A, l.length, _) holds the instructions l -/
def CodeAt (w : World) (A : Option Addr) (l : List Ins) : Prop := 0 < l.length → ∃ b o, A = some ⟨b, o, none⟩ ∧ CodeB w b o l
theorem CodeAt.after {w w' : World} {A : Option Addr} {l : List Ins} (hB : Below w.heap.size w w') (h : CodeAt w A l) : CodeAt w' A l := fun hl => by
  obtain ⟨b, o, hA, hc⟩ := h hl
  exact ⟨b, o, hA, hc.after hB⟩

/-- the caller's own boxes, and what is below the start -/
def St (w0 : World) (L : List (Nat × TypeId × Array Value)) (wx : World) : Prop := Below w0.heap.size w0 wx ∧ ∀ x ∈ L, Blk wx x.1 x.2.1 x.2.2
section
variable {w0 W w' : World} {L : List (Nat × TypeId × Array Value)} {x y z u v r : Nat × TypeId × Array Value}
theorem St.start (w : World) : St w [] w := ⟨Below.refl _ _, fun _ h => by cases h⟩
theorem St.call (hB : Below W.heap.size W w') (h : St w0 L W) : St w0 L w' := ⟨h.1.trans (hB.mono h.1.size), fun x hx => Blk.after hB (h.2 x hx)⟩
theorem St.drew (h : St w0 L W) : St w0 L W.drew := ⟨h.1.drew, fun x hx => (h.2 x hx).drew⟩
theorem St.drewN (h : St w0 L W) (n : Nat) : St w0 L (W.drewN n) := ⟨⟨h.1.os, h.1.tape, h.1.output, h.1.size, h.1.block⟩, fun x hx => (h.2 x hx).drewN n⟩
theorem St.alloc (h : St w0 L W) (cs : Array Value) (t : TypeId) : St w0 ((W.heap.size, t, cs) :: L) (W.alloc (.cells cs t)) :=
  ⟨h.1.alloc h.1.size _, fun x hx => by
    rcases List.mem_cons.1 hx with rfl | hx
    · exact Blk.new _ _ _
    · exact (h.2 x hx).alloc _⟩
theorem St.tail (h : St w0 (x :: L) W) : St w0 L W := ⟨h.1, fun y hy => h.2 y (List.mem_cons_of_mem _ hy)⟩
theorem St.swap (h : St w0 (x :: y :: L) W) : St w0 (y :: x :: L) W := ⟨h.1, fun z hz => by
  rcases List.mem_cons.1 hz with rfl | hz
  · exact h.2 _ (List.mem_cons_of_mem _ (List.mem_cons_self ..))
  rcases List.mem_cons.1 hz with rfl | hz
  · exact h.2 _ (List.mem_cons_self ..)
  · exact h.2 _ (List.mem_cons_of_mem _ (List.mem_cons_of_mem _ hz))⟩
theorem St.b1 (h : St w0 (x :: L) W) : Blk W x.1 x.2.1 x.2.2 := h.2 x (List.mem_cons_self ..)
theorem St.b2 (h : St w0 (x :: y :: L) W) : Blk W y.1 y.2.1 y.2.2 := h.tail.b1
theorem St.b3 (h : St w0 (x :: y :: z :: L) W) : Blk W z.1 z.2.1 z.2.2 := h.tail.b2
theorem St.b4 (h : St w0 (x :: y :: z :: u :: L) W) : Blk W u.1 u.2.1 u.2.2 := h.tail.b3
theorem St.b5 (h : St w0 (x :: y :: z :: u :: v :: L) W) : Blk W v.1 v.2.1 v.2.2 := h.tail.b4
end
/-- a struct of five cells, stored -/
def set5 (W : World) (g : Nat) (a b c d e : Value) : World := ((((W.setCell ⟨g, 0, none⟩ a).setCell ⟨g, 1, none⟩ b).setCell ⟨g, 2, none⟩ c).setCell ⟨g, 3, none⟩ d).setCell ⟨g, 4, none⟩ e
theorem Blk_set5 {W : World} {g : Nat} {t : TypeId} {x0 x1 x2 x3 x4 : Value} (h : Blk W g t #[x0, x1, x2, x3, x4]) (a b c d e : Value) : Blk (set5 W g a b c d e) g t #[a, b, c, d, e] :=
  ((((h.set_ 0 a).set_ 1 b).set_ 2 c).set_ 3 d).set_ 4 e
theorem Blk_far5 {W : World} {g g' : Nat} {t : TypeId} {cs : Array Value} (h : Blk W g' t cs) (hne : g' ≠ g) (a b c d e : Value) : Blk (set5 W g a b c d e) g' t cs :=
  ((((h.far (p := ⟨g, 0, none⟩) hne a).far (p := ⟨g, 1, none⟩) hne b).far (p := ⟨g, 2, none⟩) hne c).far (p := ⟨g, 3, none⟩) hne d).far (p := ⟨g, 4, none⟩) hne e
theorem Below_set5 {B : Nat} {w W : World} {g : Nat} (h : Below B w W) (hg : B ≤ g) (a b c d e : Value) : Below B w (set5 W g a b c d e) :=
  ((((h.setCell (p := ⟨g, 0, none⟩) hg a).setCell (p := ⟨g, 1, none⟩) hg b).setCell (p := ⟨g, 2, none⟩) hg c).setCell (p := ⟨g, 3, none⟩) hg d).setCell (p := ⟨g, 4, none⟩) hg e
theorem St.put5 {w0 W : World} {L : List (Nat × TypeId × Array Value)} {g : Nat} {t : TypeId} {x0 x1 x2 x3 x4 : Value} (h : St w0 ((g, t, #[x0, x1, x2, x3, x4]) :: L) W) (hg : w0.heap.size ≤ g) (hL : ∀ y ∈ L, y.1 ≠ g) (a b c d e : Value) :
    St w0 ((g, t, #[a, b, c, d, e]) :: L) (set5 W g a b c d e) :=
  ⟨Below_set5 h.1 hg a b c d e, fun y hy => by
    rcases List.mem_cons.1 hy with rfl | hy
    · exact Blk_set5 h.b1 a b c d e
    · exact Blk_far5 (h.tail.2 y hy) (hL y hy) a b c d e⟩
theorem Below_drewN {B : Nat} {w w' : World} (h : Below B w w') (n : Nat) : Below B w (w'.drewN n) := ⟨h.os, h.tape, h.output, h.size, h.block⟩
end Go.Proofs.Yteonkfdmkgjpaaa
