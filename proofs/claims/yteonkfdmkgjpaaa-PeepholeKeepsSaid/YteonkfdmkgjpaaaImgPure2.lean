/- Layer 23, plain: laws of the partner, of regions, of faults. -/
import Derived.Test.YteonkfdmkgjpaaaImgPure
import Derived.WalkKit
namespace Go.Proofs.Yteonkfdmkgjpaaa
namespace Img
theorem regU_neg {l : List Ins} {k : Nat} : ∀ {m : Nat}, (∀ j, j < m → covers l j k = false) → regU l m k = -1
  | 0, _ => rfl
  | m + 1, h => by
    unfold regU
    rw [h m (Nat.lt_succ_self m), if_neg (by simp)]
    exact regU_neg fun j hj => h j (Nat.lt_succ_of_lt hj)
theorem regU_pos {l : List Ins} {k : Nat} : ∀ {m j : Nat}, j < m → covers l j k = true → regU l m k ≠ -1
  | 0, _, hj, _ => absurd hj (Nat.not_lt_zero _)
  | m + 1, j, hj, h => by
    unfold regU
    split
    · omega
    · rename_i hm
      refine regU_pos (j := j) ?_ h
      rcases Nat.lt_succ_iff_lt_or_eq.1 hj with h1 | h1
      · exact h1
      · rw [h1] at h; exact absurd h hm
theorem nested_true {l : List Ins} {k j : Nat} (hj : j < k) (h : covers l j k = true) : nested l k = true := by
  unfold nested
  exact decide_eq_true (regU_pos hj h)
theorem nested_false {l : List Ins} {k : Nat} (h : ∀ j, j < k → covers l j k = false) : nested l k = false := by
  unfold nested
  rw [regU_neg h]
  rfl
theorem covers_none {l : List Ins} {s k : Nat} (h : partner l s = none) : covers l s k = false := by simp [covers, h]
theorem covers_some {l : List Ins} {s k e : Nat} (h : partner l s = some e) : covers l s k = (isS (at_ l s) && (decide (s ≤ k) && decide (k ≤ e))) := by simp [covers, h]

theorem regU_step (l : List Ins) (m k : Nat) : regU l (m + 1) k = if covers l m k then (m : Int) else regU l m k := rfl
end Img

/-- n numbers as the cells of a block -/
def arr (f : Nat → Int) (n : Nat) : Array Value := ((List.range n).map fun k => Value.int .i64 (f k)).toArray
theorem arr_get {f : Nat → Int} {n i : Nat} (h : i < n) : (arr f n)[i]? = some (.int .i64 (f i)) := by
  unfold arr
  simp [h]
theorem arr_set {f : Nat → Int} {n i : Nat} (h : i < n) (v : Int) : (arr f n).setIfInBounds i (.int .i64 v) = arr (fun k => if k = i then v else f k) n := by
  apply Array.ext'
  unfold arr
  simp only [Array.toList_setIfInBounds]
  apply List.ext_getElem?
  intro j
  by_cases hj : j < n
  · by_cases e : i = j
    · subst e; simp [h]
    · simp [e, hj, Ne.symm e]
  · simp [hj]
theorem arr_congr {f g : Nat → Int} {n : Nat} (h : ∀ k, k < n → f k = g k) : arr f n = arr g n := by
  unfold arr
  congr 1
  apply List.map_congr_left
  intro k hk
  rw [h k (by simpa using hk)]
theorem arr_made (n : Nat) : madeCells #[.int .i64 0] n = arr (fun _ => 0) n := by
  apply Array.ext'
  unfold madeCells arr
  simp only [Array.toList_map, Array.toList_range]
  apply List.map_congr_left
  intro k _
  have h : k % 1 = 0 := Nat.mod_one k
  show (#[Value.int .i64 0] : Array Value)[k % 1]! = _
  rw [h]
  rfl
end Go.Proofs.Yteonkfdmkgjpaaa
