/- Words for memory: an instruction stored into a row of code that the call owns. -/
import Derived.Test.YteonkfdmkgjpaaaCopy
import Derived.Test.YteonkfdmkgjpaaaImgPure5
namespace Go.Proofs.Yteonkfdmkgjpaaa
open Go.RowKit Go.Deep
set_option linter.unusedVariables false
theorem codeL_at (l : List Ins) (q : Nat) : (codeL l)[q]? = if q < l.length * 5 then some ((Img.at_ l (q / 5)).cell (q % 5)) else none := by
  unfold codeL
  rw [Array.getElem?_toList, carr_at]
theorem at_set (l : List Ins) (i : Nat) (x : Ins) (hi : i < l.length) (j : Nat) : Img.at_ (l.set i x) j = if j = i then x else Img.at_ l j := by
  unfold Img.at_
  rw [List.getD_eq_getElem?_getD, List.getD_eq_getElem?_getD, List.getElem?_set]
  by_cases e : i = j
  · rw [if_pos e, if_pos e.symm, if_pos (by omega)]; rfl
  · rw [if_neg e, if_neg (Ne.symm e)]
theorem codeL_set (l : List Ins) (i : Nat) (x : Ins) (hi : i < l.length) :
    (((((codeL l).set (i * 5) (.int .u8 x.op)).set (i * 5 + 1) (.int .i64 x.a)).set (i * 5 + 2) (.int .i64 x.b)).set (i * 5 + 3) (.int .i64 x.c)).set (i * 5 + 4) (.int .i64 x.d) = codeL (l.set i x) := by
  apply List.ext_getElem?
  intro q
  have hl := codeL_length l
  rw [codeL_at (l.set i x) q, List.length_set, at_set l i x hi]
  by_cases e : q / 5 = i
  · rw [if_pos e, if_pos (show q < l.length * 5 by omega)]
    have hq : q = i * 5 ∨ q = i * 5 + 1 ∨ q = i * 5 + 2 ∨ q = i * 5 + 3 ∨ q = i * 5 + 4 := by omega
    rcases hq with h | h | h | h | h <;> subst h
    · rw [show i * 5 % 5 = 0 from by omega]
      simp [List.getElem?_set, hl, Ins.cell]; omega
    · rw [show (i * 5 + 1) % 5 = 1 from by omega]
      simp [List.getElem?_set, hl, Ins.cell]; omega
    · rw [show (i * 5 + 2) % 5 = 2 from by omega]
      simp [List.getElem?_set, hl, Ins.cell]; omega
    · rw [show (i * 5 + 3) % 5 = 3 from by omega]
      simp [List.getElem?_set, hl, Ins.cell]; omega
    · rw [show (i * 5 + 4) % 5 = 4 from by omega]
      simp [List.getElem?_set, hl, Ins.cell]; omega
  · rw [if_neg e]
    have h0 : i * 5 ≠ q := by omega
    have h1 : i * 5 + 1 ≠ q := by omega
    have h2 : i * 5 + 2 ≠ q := by omega
    have h3 : i * 5 + 3 ≠ q := by omega
    have h4 : i * 5 + 4 ≠ q := by omega
    rw [List.getElem?_set_ne h4, List.getElem?_set_ne h3, List.getElem?_set_ne h2, List.getElem?_set_ne h1, List.getElem?_set_ne h0, codeL_at]
theorem CRow.put {W : World} {base gr c n : Nat} {l : List Ins} (h : W.ownsRow base 38 5 (.slice (some ⟨gr, 0, none⟩) n c) n (codeL l)) {i : Nat} (hi : i < l.length) (x : Ins) :
    (setc5 W gr (i * 5) (.int .u8 x.op) (.int .i64 x.a) (.int .i64 x.b) (.int .i64 x.c) (.int .i64 x.d)).ownsRow base 38 5 (.slice (some ⟨gr, 0, none⟩) n c) n (codeL (l.set i x)) := by
  rw [← codeL_set l i x hi]
  have hn : n = l.length := by
    have h1 := h.1
    rw [codeL_length] at h1
    omega
  have k : ∀ j, j < 5 → i * 5 + j < n * 5 := fun j hj => by omega
  exact (((((h.stored (i * 5) _).1.stored (i * 5 + 1) _).1.stored (i * 5 + 2) _).1.stored (i * 5 + 3) _).1.stored (i * 5 + 4) _).1
theorem CRow.cells5 {W : World} {base gr c n : Nat} {l : List Ins} (h : W.ownsRow base 38 5 (.slice (some ⟨gr, 0, none⟩) n c) n (codeL l)) {i : Nat} (hi : i < l.length) :
    ∃ v0 v1 v2 v3 v4, W.cell? ⟨gr, i * 5, none⟩ = some v0 ∧ W.cell? ⟨gr, i * 5 + 1, none⟩ = some v1 ∧ W.cell? ⟨gr, i * 5 + 2, none⟩ = some v2 ∧ W.cell? ⟨gr, i * 5 + 3, none⟩ = some v3 ∧ W.cell? ⟨gr, i * 5 + 4, none⟩ = some v4 ∧
      W.frozen? ⟨gr, i * 5, none⟩ = false ∧ W.frozen? ⟨gr, i * 5 + 1, none⟩ = false ∧ W.frozen? ⟨gr, i * 5 + 2, none⟩ = false ∧ W.frozen? ⟨gr, i * 5 + 3, none⟩ = false ∧ W.frozen? ⟨gr, i * 5 + 4, none⟩ = false := by
  have hn : n = l.length := by
    have h1 := h.1
    rw [codeL_length] at h1
    omega
  have hc : ∀ j, j < 5 → ∃ v, W.cell? ⟨gr, i * 5 + j, none⟩ = some v := fun j hj => by
    rw [h.cellAt (i * 5 + j) (by omega), codeL_at, if_pos (by omega)]
    exact ⟨_, rfl⟩
  obtain ⟨v0, h0⟩ := hc 0 (by omega)
  obtain ⟨v1, h1⟩ := hc 1 (by omega)
  obtain ⟨v2, h2⟩ := hc 2 (by omega)
  obtain ⟨v3, h3⟩ := hc 3 (by omega)
  obtain ⟨v4, h4⟩ := hc 4 (by omega)
  exact ⟨v0, v1, v2, v3, v4, h0, h1, h2, h3, h4, h.frozenAt _, h.frozenAt _, h.frozenAt _, h.frozenAt _, h.frozenAt _⟩
/-- behind the store: boxes of other types are as they were, the row reads anew -/
theorem CRow.put_all {w W : World} {base gr c : Nat} {L : List (Nat × TypeId × Array Value)} {F F' : List WF} {l : List Ins} (hS : Sx w L (F' ++ F) W) (h : W.ownsRow base 38 5 (.slice (some ⟨gr, 0, none⟩) l.length c) l.length (codeL l)) (hb : w.heap.size ≤ base) (hL : ∀ y ∈ L, y.2.1 ≠ 38)
    (hF : ∀ f ∈ F, ∀ W', Below w.heap.size w W' → f.1 W') {i : Nat} (hi : i < l.length) (x : Ins) :
    Sx w L (codeF (some ⟨gr, 0, none⟩) (l.set i x) :: F) (setc5 W gr (i * 5) (.int .u8 x.op) (.int .i64 x.a) (.int .i64 x.b) (.int .i64 x.c) (.int .i64 x.d)) := by
  have hg : base ≤ gr := (h.lt gr rfl).1
  have hB := Below_setc5 hS.1.1 (Nat.le_trans hb hg) (i * 5) (.int .u8 x.op) (.int .i64 x.a) (.int .i64 x.b) (.int .i64 x.c) (.int .i64 x.d)
  refine ⟨⟨hB, fun y hy => ?_⟩, fun f hf => ?_⟩
  · refine Blk_farc5 (hS.1.2 y hy) (fun e => ?_) _ _ _ _ _ _
    exact own_blk_ne h (hS.1.2 y hy) (Ne.symm (hL y hy)) (by rw [e]; rfl)
  · rcases List.mem_cons.1 hf with rfl | hf
    · have h2 := CRow.put h hi x
      have h3 : CRow (setc5 W gr (i * 5) (.int .u8 x.op) (.int .i64 x.a) (.int .i64 x.b) (.int .i64 x.c) (.int .i64 x.d)) base (.slice (some ⟨gr, 0, none⟩) l.length c) (l.set i x) := by
        unfold CRow
        rw [List.length_set]
        exact h2
      obtain ⟨A2, c2, e, h4⟩ := code_of_own h3
      injection e with e1 e2 e3
      subst e1
      exact h4
    · exact hF f hf _ hB
end Go.Proofs.Yteonkfdmkgjpaaa
