/- Words for memory: a list of instructions as a row that the call owns. -/
import Derived.Test.YteonkfdmkgjpaaaImgR6P
import Derived.Laws.AppendOwn
namespace Go.Proofs.Yteonkfdmkgjpaaa
open Go.RowKit Go.Deep
set_option linter.unusedVariables false
def codeL (ls : List Ins) : List Value := (carr (Img.at_ ls) ls.length).toList
theorem codeL_length (ls : List Ins) : (codeL ls).length = ls.length * 5 := by unfold codeL; rw [Array.length_toList]; exact carr_size _ _
theorem codeL_nil : codeL [] = [] := rfl
theorem at_append_lt {ls : List Ins} {x : Ins} {k : Nat} (h : k < ls.length) : Img.at_ (ls ++ [x]) k = Img.at_ ls k := by
  unfold Img.at_
  rw [List.getD_eq_getElem?_getD, List.getD_eq_getElem?_getD, List.getElem?_append_left h]
theorem at_append_eq (ls : List Ins) (x : Ins) : Img.at_ (ls ++ [x]) ls.length = x := by
  unfold Img.at_
  rw [List.getD_eq_getElem?_getD, List.getElem?_append_right (Nat.le_refl _)]
  simp
theorem codeL_append (ls : List Ins) (x : Ins) : codeL ls ++ [.int .u8 x.op, .int .i64 x.a, .int .i64 x.b, .int .i64 x.c, .int .i64 x.d] = codeL (ls ++ [x]) := by
  apply List.ext_getElem?
  intro q
  have hl := codeL_length ls
  by_cases hq : q < ls.length * 5
  · rw [List.getElem?_append_left (by omega)]
    unfold codeL
    rw [Array.getElem?_toList, Array.getElem?_toList, carr_at, carr_at, if_pos hq, if_pos (by simp; omega), at_append_lt (by omega)]
  · rw [List.getElem?_append_right (by omega), hl]
    rw [show (codeL (ls ++ [x]))[q]? = (carr (Img.at_ (ls ++ [x])) (ls ++ [x]).length)[q]? from by unfold codeL; rw [Array.getElem?_toList], carr_at]
    by_cases h2 : q < (ls ++ [x]).length * 5
    · rw [if_pos h2]
      simp at h2
      have e : q / 5 = ls.length := by omega
      rw [e, at_append_eq]
      have hc : q = ls.length * 5 ∨ q = ls.length * 5 + 1 ∨ q = ls.length * 5 + 2 ∨ q = ls.length * 5 + 3 ∨ q = ls.length * 5 + 4 := by omega
      rcases hc with h | h | h | h | h
      · rw [show q - ls.length * 5 = 0 from by omega, show q % 5 = 0 from by omega]; rfl
      · rw [show q - ls.length * 5 = 1 from by omega, show q % 5 = 1 from by omega]; rfl
      · rw [show q - ls.length * 5 = 2 from by omega, show q % 5 = 2 from by omega]; rfl
      · rw [show q - ls.length * 5 = 3 from by omega, show q % 5 = 3 from by omega]; rfl
      · rw [show q - ls.length * 5 = 4 from by omega, show q % 5 = 4 from by omega]; rfl
    · rw [if_neg h2]
      simp at h2
      rw [List.getElem?_eq_none]
      simp
      omega
/-- a row of instructions -/
abbrev CRow (W : World) (base : Nat) (v : Value) (ls : List Ins) : Prop := W.ownsRow base 38 5 v ls.length (codeL ls)
theorem code_of_own {w : World} {base : Nat} {v : Value} {ls : List Ins} (h : CRow w base v ls) : ∃ A cap, v = .slice A ls.length cap ∧ CodeAt w A ls := by
  obtain ⟨hl, ⟨rfl, hn⟩ | ⟨g, cap, cur, rfl, hb, hg, hcap, hmax, hsz, htk⟩⟩ := h
  · exact ⟨none, 0, by rw [hn], fun h => by omega⟩
  · refine ⟨_, cap, rfl, fun _ => ⟨g, 0, rfl, (Array.getElem?_eq_some_iff.1 hg).1, fun i hi => ?_⟩⟩
    have hc : ∀ j, j < 5 → w.cell? ⟨g, 0 + i * 5 + j, none⟩ = some ((Img.at_ ls i).cell j) := fun j hj => by
      rw [cell_of_row w g (0 + i * 5 + j) cur 38 (0, 0) hg, Nat.zero_add]
      have h2 : (cur.toList.take (ls.length * 5))[i * 5 + j]? = (codeL ls)[i * 5 + j]? := by rw [htk]
      rw [List.getElem?_take_of_lt (by omega)] at h2
      unfold codeL at h2
      rw [Array.getElem?_toList, Array.getElem?_toList, carr_get hi hj] at h2
      exact h2
    exact ⟨hc 0 (by omega), hc 1 (by omega), hc 2 (by omega), hc 3 (by omega), hc 4 (by omega)⟩
/-- the five cells of a box, as append asks for them -/
theorem cells5_from {W : World} {g : Nat} {t : TypeId} {a b c d e : Value} (h : Blk W g t #[a, b, c, d, e]) : ∀ j u, [a, b, c, d, e][j]? = some u → W.cell? ((⟨g, 0, none⟩ : Addr).add j) = some u := by
  intro j u hj
  have hk := h.cell j
  have e : ((⟨g, 0, none⟩ : Addr).add j) = ⟨g, j, none⟩ := by
    unfold Addr.add
    by_cases h0 : j = 0
    · simp [h0]
    · simp [h0]
  rw [e, hk]
  simpa using hj
theorem ins_oneCell (x : Ins) : ∀ u ∈ [Value.int .u8 x.op, .int .i64 x.a, .int .i64 x.b, .int .i64 x.c, .int .i64 x.d], u.oneCell' = true := by
  intro u hu
  simp at hu
  rcases hu with rfl | rfl | rfl | rfl | rfl <;> rfl
end Go.Proofs.Yteonkfdmkgjpaaa
