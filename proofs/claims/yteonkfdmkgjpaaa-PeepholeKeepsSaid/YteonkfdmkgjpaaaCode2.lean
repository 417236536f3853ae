/- More words for memory: one cell of a box of the caller's own stored; a list of numbers in a block. -/
import Derived.Test.YteonkfdmkgjpaaaCode
import Derived.Test.YteonkfdmkgjpaaaImgPure2
import Derived.Deep.OwnRows
namespace Go.Proofs.Yteonkfdmkgjpaaa
open Go.RowKit Go.Deep
set_option linter.unusedVariables false

theorem St.set1 {w0 W : World} {L : List (Nat × TypeId × Array Value)} {g : Nat} {t : TypeId} {cs : Array Value} (h : St w0 ((g, t, cs) :: L) W) (hg : w0.heap.size ≤ g) (hL : ∀ y ∈ L, y.1 ≠ g) (i : Nat) (v : Value) :
    St w0 ((g, t, cs.setIfInBounds i v) :: L) (W.setCell ⟨g, i, none⟩ v) :=
  ⟨h.1.setCell hg v, fun y hy => by
    rcases List.mem_cons.1 hy with rfl | hy
    · exact h.b1.set_ i v
    · exact (h.tail.2 y hy).far (hL y hy) v⟩
theorem St.arrCells {w0 W : World} {L : List (Nat × TypeId × Array Value)} {g : Nat} {t : TypeId} {f : Nat → Int} {n : Nat} (h : Blk W g t (arr f n)) :
    (∀ i, i < n → W.cell? ⟨g, i, none⟩ = some (.int .i64 (f i))) ∧ ∀ i, W.frozen? ⟨g, i, none⟩ = false :=
  ⟨fun i hi => by rw [h.cell i]; exact arr_get hi, fun i => h.frozen i⟩
theorem Img.start_lt {l : List Ins} {i e : Nat} (h : Img.partner l i = some e) (hs : (Img.at_ l i).op = 32) : i < e := by
  unfold Img.partner at h
  split at h
  · rename_i hh
    injection h with h
    obtain ⟨-, -, -, hp⟩ := hh
    rw [h] at hp
    simp only [Img.isP, Bool.and_eq_true, decide_eq_true_eq] at hp
    have hk := hp.2
    have hne := hp.1.1.1.1.1.1.1
    simp only [Img.kinds, hs, Isa.isJ, Isa.isL, Img.isS, Img.isE] at hk
    by_cases hlt : e < i
    · simp [hlt] at hk
    · omega
  · cases h
theorem fill_neg (i k : Nat) : (if k = i then (-1 : Int) else if k < i then -1 else 0) = if k < i + 1 then -1 else 0 := by
  by_cases h1 : k = i
  · simp [h1]
  · by_cases h2 : k < i
    · rw [if_neg h1, if_pos h2, if_pos (by omega)]
    · rw [if_neg h1, if_neg h2, if_neg (by omega)]
theorem fill_neg_all {n k : Nat} (h : k < n) (l : List Ins) : (if k < n then (-1 : Int) else 0) = Img.regU l 0 k := by rw [if_pos h]; rfl
theorem fill_step (l : List Ins) (i m q : Nat) (hm : i ≤ m) : (if q = m then (i : Int) else if i ≤ q ∧ q < m then (i : Int) else Img.regU l i q) = if i ≤ q ∧ q < m + 1 then (i : Int) else Img.regU l i q := by
  by_cases h1 : q = m
  · subst h1; rw [if_pos rfl, if_pos (by omega)]
  · rw [if_neg h1]
    by_cases h2 : i ≤ q ∧ q < m
    · rw [if_pos h2, if_pos (by omega)]
    · rw [if_neg h2, if_neg (by omega)]
theorem fill_end {l : List Ins} {i e q : Nat} (hs : Img.isS (Img.at_ l i) = true) (hp : Img.partner l i = some e) : (if i ≤ q ∧ q < e + 1 then (i : Int) else Img.regU l i q) = Img.regU l (i + 1) q := by
  rw [Img.regU_step, Img.covers_some hp, hs]
  by_cases h : i ≤ q ∧ q < e + 1
  · rw [if_pos h, if_pos (by simp; omega)]
  · rw [if_neg h, if_neg (by simp; omega)]
theorem fill_none {l : List Ins} {i q : Nat} (h : Img.covers l i q = false) : Img.regU l i q = Img.regU l (i + 1) q := by
  rw [Img.regU_step, h]; rfl
theorem run_make_ints (w : World) (n : Nat) (hn : n ≤ 1048576) :
    (Instr.makeSlice 44 (.int .i64 (n : Int)) (.int .i64 (n : Int))).run Try.prog w = .ok (.slice (some ⟨w.heap.size, 0, none⟩) n n) (w.alloc (.cells (arr (fun _ => 0) n) 3)) := by
  rw [← arr_made]
  exact run_make_row' 44 3 (.int .i64 0) 8 Try.underlying44 (by kernel_rfl) rfl .i64 .i64 n (by omega) (by omega) w
end Go.Proofs.Yteonkfdmkgjpaaa
