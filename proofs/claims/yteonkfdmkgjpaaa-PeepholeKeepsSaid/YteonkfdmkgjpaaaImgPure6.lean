/- Layer 23, plain: the inverse of a valid image has as many procedures. No program in sight. -/
import Derived.Test.YteonkfdmkgjpaaaImgPure5
namespace Go.Proofs.Yteonkfdmkgjpaaa
set_option linter.unusedVariables false
namespace Img
theorem sub_len {α : Type} [DecidableEq α] : ∀ {A B : List α}, A.Nodup → (∀ x ∈ A, x ∈ B) → A.length ≤ B.length
  | [], _, _, _ => Nat.zero_le _
  | a :: A, B, hn, h => by
    obtain ⟨h1, h2⟩ := List.nodup_cons.1 hn
    have ha := h a (List.mem_cons_self ..)
    have := sub_len (A := A) (B := B.erase a) h2 fun x hx => (List.mem_erase_of_ne (fun e => h1 (by rw [← e]; exact hx))).2 (h x (List.mem_cons_of_mem _ hx))
    rw [List.length_erase_of_mem ha] at this
    have hp := List.length_pos_of_mem ha
    simp only [List.length_cons]
    omega
theorem inj_len {A B : List Nat} (f : Nat → Nat) (hn : A.Nodup) (hi : ∀ x ∈ A, ∀ y ∈ A, f x = f y → x = y) (h : ∀ x ∈ A, f x ∈ B) : A.length ≤ B.length := by
  have h1 : (A.map f).Nodup := by
    induction A with
    | nil => exact List.nodup_nil
    | cons a A ih =>
      obtain ⟨h1, h2⟩ := List.nodup_cons.1 hn
      rw [List.map_cons]
      refine List.nodup_cons.2 ⟨fun hm => ?_, ih h2 (fun x hx y hy => hi x (List.mem_cons_of_mem _ hx) y (List.mem_cons_of_mem _ hy)) (fun x hx => h x (List.mem_cons_of_mem _ hx))⟩
      obtain ⟨y, hy, e⟩ := List.mem_map.1 hm
      exact h1 (by rw [← hi y (List.mem_cons_of_mem _ hy) a (List.mem_cons_self ..) e]; exact hy)
  have h2 := sub_len (B := B) h1 fun x hx => by
    obtain ⟨y, hy, rfl⟩ := List.mem_map.1 hx
    exact h y hy
  rwa [List.length_map] at h2
/-- the indices of the starts -/
def starts (l : List Ins) : List Nat := (List.range l.length).filter fun i => isS (at_ l i)
def ends (l : List Ins) : List Nat := (List.range l.length).filter fun i => isE (at_ l i)
theorem mem_starts {l : List Ins} {i : Nat} : i ∈ starts l ↔ i < l.length ∧ isS (at_ l i) = true := by simp [starts]
theorem mem_ends {l : List Ins} {i : Nat} : i ∈ ends l ↔ i < l.length ∧ isE (at_ l i) = true := by simp [ends]
theorem starts_nodup (l : List Ins) : (starts l).Nodup := List.Nodup.sublist List.filter_sublist List.nodup_range
theorem ends_nodup (l : List Ins) : (ends l).Nodup := List.Nodup.sublist List.filter_sublist List.nodup_range
theorem Ok.starts_ends {l : List Ins} (h : Ok l) : (starts l).length = (ends l).length := by
  have hp : ∀ i, i < l.length → (isS (at_ l i) = true ∨ isE (at_ l i) = true) → ∃ p, partner l i = some p ∧ (partner l i).getD 0 = p := fun i hi hs => by
    obtain ⟨p, hq⟩ := (h.fine hi).pair (by unfold pk; rcases hs with e | e <;> simp [e])
    exact ⟨p, hq, by rw [hq]; rfl⟩
  apply Nat.le_antisymm
  · refine inj_len (fun i => (partner l i).getD 0) (starts_nodup l) (fun x hx y hy e => ?_) (fun x hx => ?_)
    · obtain ⟨h1, h2⟩ := mem_starts.1 hx
      obtain ⟨h3, h4⟩ := mem_starts.1 hy
      obtain ⟨p, hp1, e1⟩ := hp x h1 (.inl h2)
      obtain ⟨q, hp2, e2⟩ := hp y h3 (.inl h4)
      have e3 : p = q := by rw [← e1, ← e2]; exact e
      have a1 := partner_symm hp1
      have a2 := partner_symm hp2
      rw [e3, a2] at a1
      injection a1 with a1
      exact a1.symm
    · obtain ⟨h1, h2⟩ := mem_starts.1 hx
      obtain ⟨p, hp1, e1⟩ := hp x h1 (.inl h2)
      have hq := PP.mk' hp1
      show (partner l x).getD 0 ∈ _
      rw [e1]
      exact mem_ends.2 ⟨hq.hj, by rw [← hq.kinds_of.2.2.2.1]; exact h2⟩
  · refine inj_len (fun i => (partner l i).getD 0) (ends_nodup l) (fun x hx y hy e => ?_) (fun x hx => ?_)
    · obtain ⟨h1, h2⟩ := mem_ends.1 hx
      obtain ⟨h3, h4⟩ := mem_ends.1 hy
      obtain ⟨p, hp1, e1⟩ := hp x h1 (.inr h2)
      obtain ⟨q, hp2, e2⟩ := hp y h3 (.inr h4)
      have e3 : p = q := by rw [← e1, ← e2]; exact e
      have a1 := partner_symm hp1
      have a2 := partner_symm hp2
      rw [e3, a2] at a1
      injection a1 with a1
      exact a1.symm
    · obtain ⟨h1, h2⟩ := mem_ends.1 hx
      obtain ⟨p, hp1, e1⟩ := hp x h1 (.inr h2)
      have hq := PP.mk' hp1
      show (partner l x).getD 0 ∈ _
      rw [e1]
      exact mem_starts.2 ⟨hq.hj, by rw [← hq.kinds_of.2.2.2.2]; exact h2⟩
theorem Ok.starts_mirror {l : List Ins} (h : Ok l) : (starts (invert l)).length = (starts l).length := by
  rw [h.starts_ends]
  apply Nat.le_antisymm
  · refine inj_len (fun i => l.length - 1 - i) (starts_nodup _) (fun x hx y hy e => ?_) (fun x hx => ?_)
    · obtain ⟨h1, h2⟩ := mem_starts.1 hx
      obtain ⟨h3, h4⟩ := mem_starts.1 hy
      rw [inv_length] at h1 h3
      have e : l.length - 1 - x = l.length - 1 - y := e
      omega
    · obtain ⟨h1, h2⟩ := mem_starts.1 hx
      rw [inv_length] at h1
      rw [inv_at l h1, (invAt_kinds l _).2.2.1] at h2
      exact mem_ends.2 ⟨by omega, h2⟩
  · refine inj_len (fun i => l.length - 1 - i) (ends_nodup _) (fun x hx y hy e => ?_) (fun x hx => ?_)
    · obtain ⟨h1, h2⟩ := mem_ends.1 hx
      obtain ⟨h3, h4⟩ := mem_ends.1 hy
      have e : l.length - 1 - x = l.length - 1 - y := e
      omega
    · obtain ⟨h1, h2⟩ := mem_ends.1 hx
      exact mem_starts.2 ⟨by rw [inv_length]; omega, by rw [inv_at' l h1, (invAt_kinds l _).2.2.1]; exact h2⟩
end Img
end Go.Proofs.Yteonkfdmkgjpaaa
