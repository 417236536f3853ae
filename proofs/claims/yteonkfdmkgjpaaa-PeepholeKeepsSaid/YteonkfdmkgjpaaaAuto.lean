/- The world of a walk under one name: what is below the start, and the caller's own boxes, found by the walk's own spelling. -/
import Derived.Test.YteonkfdmkgjpaaaCode
import Derived.WalkKit
namespace Go.Proofs.Yteonkfdmkgjpaaa
open Go.RowKit
set_option linter.unusedVariables false
/-- the cells of a box, from the cell i on -/
def CellsF (w : World) (g : Nat) : Nat → List Value → Prop
  | _, [] => True
  | i, v :: vs => w.cell? ⟨g, i, none⟩ = some v ∧ w.frozen? ⟨g, i, none⟩ = false ∧ CellsF w g (i + 1) vs
def CellsL (w : World) : List (Nat × TypeId × Array Value) → Prop
  | [] => True
  | (g, _, cs) :: L => g < w.heap.size ∧ CellsF w g 0 cs.toList ∧ CellsL w L
theorem Blk.cellsF {w : World} {g : Nat} {t : TypeId} {cs : Array Value} (h : Blk w g t cs) : ∀ (n i : Nat), n + i = cs.size → CellsF w g i (cs.toList.drop i)
  | 0, i, e => by rw [List.drop_of_length_le (by simp; omega)]; trivial
  | n + 1, i, e => by
    have hi : i < cs.toList.length := by simp; omega
    rw [List.drop_eq_getElem_cons hi]
    refine ⟨?_, h.frozen i, Blk.cellsF h n (i + 1) (by omega)⟩
    rw [h.cell i]
    simp at hi
    rw [Array.getElem?_eq_getElem hi]
    simp
theorem St.cellsL {w0 w : World} : ∀ {L : List (Nat × TypeId × Array Value)}, St w0 L w → CellsL w L
  | [], _ => trivial
  | (g, t, cs) :: L, h => ⟨h.b1.lt, by have := h.b1.cellsF cs.size 0 (by simp); simpa using this, St.cellsL h.tail⟩
theorem St.lts {w0 w : World} {L : List (Nat × TypeId × Array Value)} (h : St w0 L w) : ∀ x ∈ L, x.1 < w.heap.size := fun x hx => (h.2 x hx).lt
/-- a fact about a world that stays true where only memory is made -/
abbrev WF := {P : World → Prop // ∀ w w' : World, Below w.heap.size w w' → P w → P w'}
abbrev codeF (A : Option Addr) (l : List Ins) : WF := ⟨fun w => CodeAt w A l, fun _ _ hB h => CodeAt.after hB h⟩
/-- what is below the start, the caller's own boxes, and facts that stay -/
def Sx (w0 : World) (L : List (Nat × TypeId × Array Value)) (F : List WF) (W : World) : Prop := St w0 L W ∧ ∀ f ∈ F, f.1 W
section
variable {w0 W w' : World} {L : List (Nat × TypeId × Array Value)} {F : List WF} {f f' f'' g : WF}
theorem Sx.start (w : World) (h : ∀ f ∈ F, f.1 w) : Sx w [] F w := ⟨St.start w, h⟩
theorem Sx.alloc (h : Sx w0 L F W) (cs : Array Value) (t : TypeId) : Sx w0 ((W.heap.size, t, cs) :: L) F (W.alloc (.cells cs t)) :=
  ⟨h.1.alloc cs t, fun f hf => f.2 _ _ ((Below.refl _ _).alloc (Nat.le_refl _) _) (h.2 f hf)⟩
theorem Sx.drew (h : Sx w0 L F W) : Sx w0 L F W.drew := ⟨h.1.drew, fun f hf => f.2 _ _ (Below.refl _ _).drew (h.2 f hf)⟩
theorem Sx.drewN (h : Sx w0 L F W) (n : Nat) : Sx w0 L F (W.drewN n) := ⟨h.1.drewN n, fun f hf => f.2 _ _ (Below_drewN (Below.refl _ _) n) (h.2 f hf)⟩
theorem Sx.call (hB : Below W.heap.size W w') (h : Sx w0 L F W) : Sx w0 L F w' := ⟨h.1.call hB, fun f hf => f.2 _ _ hB (h.2 f hf)⟩
theorem Sx.callF (hB : Below W.heap.size W w') (hf : f.1 w') (h : Sx w0 L F W) : Sx w0 L (f :: F) w' := ⟨h.1.call hB, fun f' hf' => by
  rcases List.mem_cons.1 hf' with rfl | hm
  · exact hf
  · exact f'.2 _ _ hB (h.2 f' hm)⟩
theorem Sx.add (hf : f.1 W) (h : Sx w0 L F W) : Sx w0 L (f :: F) W := ⟨h.1, fun f' hf' => by
  rcases List.mem_cons.1 hf' with rfl | hm
  · exact hf
  · exact h.2 f' hm⟩
theorem Sx.f1 (h : Sx w0 L (f :: F) W) : f.1 W := h.2 f (List.mem_cons_self ..)
theorem Sx.tl (h : Sx w0 L (f :: F) W) : Sx w0 L F W := ⟨h.1, fun f' hf' => h.2 f' (List.mem_cons_of_mem _ hf')⟩
theorem Sx.f2 (h : Sx w0 L (f :: f' :: F) W) : f'.1 W := h.tl.f1
theorem Sx.f3 (h : Sx w0 L (f :: f' :: f'' :: F) W) : f''.1 W := h.tl.tl.f1
theorem Sx.f4 (h : Sx w0 L (f :: f' :: f'' :: g :: F) W) : g.1 W := h.tl.tl.tl.f1
theorem Sx.f5 {g2 : WF} (h : Sx w0 L (f :: f' :: f'' :: g :: g2 :: F) W) : g2.1 W := h.tl.tl.tl.tl.f1
theorem Sx.cellsL (h : Sx w0 L F W) : CellsL W L := h.1.cellsL
theorem Sx.below (h : Sx w0 L F W) : Below w0.heap.size w0 W := h.1.1
end
theorem Sx.drop {w0 W : World} {x : Nat × TypeId × Array Value} {L : List (Nat × TypeId × Array Value)} {F : List WF} (h : Sx w0 (x :: L) F W) : Sx w0 L F W := ⟨h.1.tail, h.2⟩
/-- the five cells of an instruction -/
theorem CodeAt.cells {w : World} {b o : Nat} {l : List Ins} (h : CodeAt w (some ⟨b, o, none⟩) l) {i : Nat} (hi : i < l.length) : b < w.heap.size ∧
    w.cell? ⟨b, o + i * 5, none⟩ = some (.int .u8 (Img.at_ l i).op) ∧ w.cell? ⟨b, o + i * 5 + 1, none⟩ = some (.int .i64 (Img.at_ l i).a) ∧ w.cell? ⟨b, o + i * 5 + 2, none⟩ = some (.int .i64 (Img.at_ l i).b) ∧
    w.cell? ⟨b, o + i * 5 + 3, none⟩ = some (.int .i64 (Img.at_ l i).c) ∧ w.cell? ⟨b, o + i * 5 + 4, none⟩ = some (.int .i64 (Img.at_ l i).d) := by
  obtain ⟨b', o', e, h1, h2⟩ := h (by omega)
  injection e with e
  injection e with e1 e2
  subst e1 e2
  exact ⟨h1, h2 i hi⟩
theorem CodeAt.some {w : World} {A : Option Addr} {l : List Ins} (h : CodeAt w A l) (h0 : 0 < l.length) : ∃ b o, A = some ⟨b, o, none⟩ := by
  obtain ⟨b, o, e, _⟩ := h h0
  exact ⟨b, o, e⟩
/-- a fact that does not hang on the block g -/
def Far (g : Nat) (f : WF) : Prop := ∀ (W : World) (p : Addr) (v : Value), p.block = g → f.1 W → f.1 (W.setCell p v)
theorem far_code {g b o : Nat} {l : List Ins} (h : b ≠ g) : Far g (codeF (some ⟨b, o, none⟩) l) := by
  intro W p v hp hc h0
  obtain ⟨b', o', e, h1, h2⟩ := hc h0
  injection e with e
  injection e with e1 e2
  subst e1 e2
  refine ⟨b, o, rfl, by rw [World.size_setCell]; exact h1, fun i hi => ?_⟩
  have hk : ∀ j, (W.setCell p v).cell? ⟨b, j, none⟩ = W.cell? ⟨b, j, none⟩ := fun j => by
    have hb := Below.heap_setCell W p v b (by rw [hp]; exact h)
    unfold World.cell?
    rw [hb]
  obtain ⟨a0, a1, a2, a3, a4⟩ := h2 i hi
  exact ⟨(hk _).trans a0, (hk _).trans a1, (hk _).trans a2, (hk _).trans a3, (hk _).trans a4⟩
theorem Sx.set5 {w0 W : World} {g : Nat} {t : TypeId} {x0 x1 x2 x3 x4 : Value} {L : List (Nat × TypeId × Array Value)} {F : List WF} (h : Sx w0 ((g, t, #[x0, x1, x2, x3, x4]) :: L) F W) (hg : w0.heap.size ≤ g) (hL : ∀ y ∈ L, y.1 ≠ g) (hF : ∀ f ∈ F, Far g f)
    (a b c d e : Value) : Sx w0 ((g, t, #[a, b, c, d, e]) :: L) F (set5 W g a b c d e) :=
  ⟨h.1.put5 hg hL a b c d e, fun f hf => hF f hf _ ⟨g, 4, none⟩ _ rfl (hF f hf _ ⟨g, 3, none⟩ _ rfl (hF f hf _ ⟨g, 2, none⟩ _ rfl (hF f hf _ ⟨g, 1, none⟩ _ rfl (hF f hf _ ⟨g, 0, none⟩ _ rfl (h.2 f hf)))))⟩
theorem wp_abs {P : Program} {c : Code} {Q : Exit → Act → World → Prop} {a : Act} {W : World} {w0 : World} {L : List (Nat × TypeId × Array Value)} {F : List WF} (h : Sx w0 L F W) (k : ∀ wx, Sx w0 L F wx → Code.wp P c Q a wx) : Code.wp P c Q a W := k W h
theorem calls_abs {P : Program} {n : FuncId} {args : Array Value} {Q : Ending → World → Prop} {W : World} {w0 : World} {L : List (Nat × TypeId × Array Value)} {F : List WF} (h : Sx w0 L F W) (k : ∀ wx, Sx w0 L F wx → Calls P n args wx Q) : Calls P n args W Q := k W h
end Go.Proofs.Yteonkfdmkgjpaaa
