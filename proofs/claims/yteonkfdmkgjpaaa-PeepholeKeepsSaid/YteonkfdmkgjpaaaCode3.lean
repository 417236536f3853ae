/- Words for memory: a block that holds a list of instructions. -/
import Derived.Test.YteonkfdmkgjpaaaImgW6
import Derived.Deep.OwnRows
namespace Go.Proofs.Yteonkfdmkgjpaaa
open Go.RowKit Go.Deep
set_option linter.unusedVariables false

def Ins.cell (x : Ins) (j : Nat) : Value := match j with
  | 0 => .int .u8 x.op
  | 1 => .int .i64 x.a
  | 2 => .int .i64 x.b
  | 3 => .int .i64 x.c
  | _ => .int .i64 x.d
/-- n instructions as the cells of a block -/
def carr (f : Nat → Ins) (n : Nat) : Array Value := ((List.range (n * 5)).map fun q => (f (q / 5)).cell (q % 5)).toArray
theorem carr_at (f : Nat → Ins) (n q : Nat) : (carr f n)[q]? = if q < n * 5 then some ((f (q / 5)).cell (q % 5)) else none := by
  unfold carr
  by_cases h : q < n * 5 <;> simp [h]
theorem carr_get {f : Nat → Ins} {n i j : Nat} (h : i < n) (hj : j < 5) : (carr f n)[i * 5 + j]? = some ((f i).cell j) := by
  rw [carr_at, if_pos (by omega), show (i * 5 + j) / 5 = i from by omega, show (i * 5 + j) % 5 = j from by omega]
theorem carr_congr {f g : Nat → Ins} {n : Nat} (h : ∀ k, k < n → f k = g k) : carr f n = carr g n := by
  apply Array.ext'
  apply List.ext_getElem?
  intro q
  rw [Array.getElem?_toList, Array.getElem?_toList, carr_at, carr_at]
  by_cases hq : q < n * 5
  · rw [if_pos hq, if_pos hq, h _ (by omega)]
  · rw [if_neg hq, if_neg hq]
theorem carr_size (f : Nat → Ins) (n : Nat) : (carr f n).size = n * 5 := by simp [carr]
theorem carr_set5 {f : Nat → Ins} {n i : Nat} (h : i < n) (x : Ins) :
    (((((carr f n).setIfInBounds (i * 5) (x.cell 0)).setIfInBounds (i * 5 + 1) (x.cell 1)).setIfInBounds (i * 5 + 2) (x.cell 2)).setIfInBounds (i * 5 + 3) (x.cell 3)).setIfInBounds (i * 5 + 4) (x.cell 4) = carr (fun k => if k = i then x else f k) n := by
  apply Array.ext'
  apply List.ext_getElem?
  intro q
  have hs := carr_size f n
  simp only [Array.getElem?_toList, Array.getElem?_setIfInBounds, Array.size_setIfInBounds, carr_at, hs]
  by_cases hq : q < n * 5
  · by_cases e : q / 5 = i
    · have hc : q = i * 5 ∨ q = i * 5 + 1 ∨ q = i * 5 + 2 ∨ q = i * 5 + 3 ∨ q = i * 5 + 4 := by omega
      rw [if_pos hq, if_pos hq, if_pos e]
      rcases hc with rfl | rfl | rfl | rfl | rfl
      all_goals (simp; try omega)
    · have h0 : ¬ i * 5 = q := by omega
      have h1 : ¬ i * 5 + 1 = q := by omega
      have h2 : ¬ i * 5 + 2 = q := by omega
      have h3 : ¬ i * 5 + 3 = q := by omega
      have h4 : ¬ i * 5 + 4 = q := by omega
      simp [h0, h1, h2, h3, h4, hq, e]
  · have h0 : ¬ i * 5 = q := by omega
    have h1 : ¬ i * 5 + 1 = q := by omega
    have h2 : ¬ i * 5 + 2 = q := by omega
    have h3 : ¬ i * 5 + 3 = q := by omega
    have h4 : ¬ i * 5 + 4 = q := by omega
    simp [h0, h1, h2, h3, h4, hq]
theorem carr_code {W : World} {g : Nat} {t : TypeId} {l : List Ins} (h : Blk W g t (carr (Img.at_ l) l.length)) : CodeB W g 0 l := by
  refine ⟨h.lt, fun i hi => ?_⟩
  have hc : ∀ j, j < 5 → W.cell? ⟨g, 0 + i * 5 + j, none⟩ = some ((Img.at_ l i).cell j) := fun j hj => by
    rw [h.cell, Nat.zero_add]
    exact carr_get hi hj
  exact ⟨hc 0 (by omega), hc 1 (by omega), hc 2 (by omega), hc 3 (by omega), hc 4 (by omega)⟩
theorem carr_made (n : Nat) : madeCells #[.int .u8 0, .int .i64 0, .int .i64 0, .int .i64 0, .int .i64 0] (n * 5) = carr (fun _ => Img.zero) n := by
  apply Array.ext'
  unfold madeCells carr
  simp only [Array.toList_map, Array.toList_range]
  apply List.map_congr_left
  intro q _
  have h : q % 5 < 5 := Nat.mod_lt _ (by omega)
  show (#[Value.int .u8 0, .int .i64 0, .int .i64 0, .int .i64 0, .int .i64 0] : Array Value)[q % 5]! = Img.zero.cell (q % 5)
  generalize q % 5 = r at *
  match r, h with
  | 0, _ => rfl
  | 1, _ => rfl
  | 2, _ => rfl
  | 3, _ => rfl
  | 4, _ => rfl
theorem info_instr : (Try.prog.info? 38).map (fun i => (i.zero, i.size, i.bytes)) = some (some (.agg #[.int .u8 0, .int .i64 0, .int .i64 0, .int .i64 0, .int .i64 0]), 5, 40) := by kernel_rfl
theorem run_make_code (w : World) (n : Nat) (hn : n ≤ 1048576) :
    (Instr.makeSlice 22 (.int .i64 (n : Int)) (.int .i64 (n : Int))).run Try.prog w = .ok (.slice (some ⟨w.heap.size, 0, none⟩) n n) (w.alloc (.cells (carr (fun _ => Img.zero) n) 38)) := by
  obtain ⟨i, hi, hz, hs, hb⟩ := info_parts info_instr
  have h := run_make (w := w) 22 38 i _ Try.underlying22 hi hz .i64 .i64 (n : Int) (n : Int) (by omega) (Int.le_refl _) (by rw [hb]; omega) (by omega)
  rw [hs, Int.toNat_natCast] at h
  rw [← carr_made]
  exact h
end Go.Proofs.Yteonkfdmkgjpaaa
