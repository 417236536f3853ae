/- Layer 23, plain: which procedure of a list contains an index. No program in sight. -/
import Derived.Test.YteonkfdmkgjpaaaImgPure6
namespace Go.Proofs.Yteonkfdmkgjpaaa
set_option linter.unusedVariables false
namespace Img
/-- the procedure of the list L that contains k, or -1 -/
def ct (l : List Ins) (L : List Nat) (k : Nat) : Int := match L.find? (fun s => covers l s k) with | some s => (s : Int) | none => -1
theorem ct_nil (l : List Ins) (k : Nat) : ct l [] k = -1 := rfl
theorem ct_none {l : List Ins} (h : Ok l) {L : List Nat} {s k : Nat} (hs : s ∉ L) (hc : covers l s k = true) : L.find? (fun s => covers l s k) = none := by
  rw [List.find?_eq_none]
  intro t ht h2
  have := h.disjoint (by simpa using h2) hc
  exact hs (this ▸ ht)
theorem ct_neg {l : List Ins} (h : Ok l) {L : List Nat} {s k : Nat} (hs : s ∉ L) (hc : covers l s k = true) : ct l L k = -1 := by
  unfold ct
  rw [ct_none h hs hc]
theorem ct_snoc {l : List Ins} (h : Ok l) {L : List Nat} {s k : Nat} (hs : s ∉ L) : ct l (L ++ [s]) k = if covers l s k then (s : Int) else ct l L k := by
  unfold ct
  rw [List.find?_append]
  cases hc : covers l s k with
  | true => rw [ct_none h hs hc]; simp [hc]
  | false => simp [hc]
theorem ct_congr {l : List Ins} {L : List Nat} {a b : Nat} (h : ∀ s, covers l s a = covers l s b) : ct l L a = ct l L b := by
  unfold ct
  rw [show (fun s => covers l s a) = fun s => covers l s b from funext h]
theorem starts_take {l : List Ins} {q : Nat} (hq : q < (starts l).length) : (starts l).take (q + 1) = (starts l).take q ++ [(starts l)[q]] ∧ (starts l)[q] ∉ (starts l).take q := by
  refine ⟨List.take_succ_eq_append_getElem hq, fun hm => ?_⟩
  obtain ⟨j, hj, e⟩ := List.getElem_of_mem hm
  rw [List.length_take] at hj
  rw [List.getElem_take] at e
  have := (List.pairwise_iff_getElem.1 (starts_nodup l)) j q (by omega) hq (by omega)
  exact this e
theorem procs_starts (l : List Ins) : ((starts l).map fun (i : Nat) => (i : Int)) = ((List.range l.length).filter fun i => isS (at_ l i)).map fun (i : Nat) => (i : Int) := rfl
/-- the row while the procedure s is written, up to m -/
theorem ct_step (l : List Ins) (L : List Nat) (s m k : Nat) (hm : s ≤ m) : (if k = m then (s : Int) else if s ≤ k ∧ k < m then (s : Int) else ct l L k) = if s ≤ k ∧ k < m + 1 then (s : Int) else ct l L k := by
  by_cases h : k = m
  · subst h
    rw [if_pos rfl, if_pos ⟨hm, by omega⟩]
  · rw [if_neg h]
    by_cases h2 : s ≤ k ∧ k < m
    · rw [if_pos h2, if_pos ⟨h2.1, by omega⟩]
    · rw [if_neg h2, if_neg (by omega)]
theorem ct_start (l : List Ins) (L : List Nat) (s k : Nat) : ct l L k = if s ≤ k ∧ k < s then (s : Int) else ct l L k := by rw [if_neg (by omega)]
theorem ct_done {l : List Ins} (h : Ok l) {L : List Nat} {s e k : Nat} (hs : s ∉ L) (hS : isS (at_ l s) = true) (hp : partner l s = some e) : (if s ≤ k ∧ k < e + 1 then (s : Int) else ct l L k) = ct l (L ++ [s]) k := by
  rw [ct_snoc h hs]
  by_cases hc : s ≤ k ∧ k < e + 1
  · rw [if_pos hc, if_pos (covers_if.2 ⟨hS, e, hp, hc.1, by omega⟩)]
  · rw [if_neg hc, if_neg]
    intro h2
    obtain ⟨_, e', hp', h3, h4⟩ := covers_if.1 h2
    rw [hp] at hp'
    injection hp' with hp'
    omega
end Img
end Go.Proofs.Yteonkfdmkgjpaaa
