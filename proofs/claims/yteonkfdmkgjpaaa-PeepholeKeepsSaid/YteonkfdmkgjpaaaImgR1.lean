/- Contracts of the reference of layer 23: jump, landing, target, Partner. -/
import Derived.Test.YteonkfdmkgjpaaaIsaR2
import Derived.Test.YteonkfdmkgjpaaaImgW5
import Derived.Deep.RegionHeld3
import Derived.Deep.DeepCutAuto
import Derived.BigQuiet
import Derived.Deep.QuietTactic
namespace Go.Proofs.Yteonkfdmkgjpaaa
open Go.RowKit
set_option linter.unusedVariables false
set_option linter.unusedSimpArgs false

namespace Img
/-- the partner as the reference tells it -/
def num1 (o : Option Nat) : Int := match o with | some p => (p : Int) | none => -1
/-- the target as the reference tells it -/
def rtB (op a b : Int) : Int :=
  if (op == 22 || op == 25 || op == 30 || op == 31 || op == 32 || op == 33) then a else if (op == 23 || op == 24 || op == 26 || op == 27) then b else -1
def rt (x : Ins) : Int := if has x then tg x else -1
theorem rtB_eq (x : Ins) : rtB x.op x.a x.b = rt x := by
  rcases Isa.row_range x.op with ⟨n, hn⟩ | h
  · have hall : ∀ n : Fin 35, (((n.val : Int) == 22 || (n.val : Int) == 25 || (n.val : Int) == 30 || (n.val : Int) == 31 || (n.val : Int) == 32 || (n.val : Int) == 33) = true ∧ Isa.tgt (n.val : Int) = some 0) ∨
        (((n.val : Int) == 22 || (n.val : Int) == 25 || (n.val : Int) == 30 || (n.val : Int) == 31 || (n.val : Int) == 32 || (n.val : Int) == 33) = false ∧ (((n.val : Int) == 23 || (n.val : Int) == 24 || (n.val : Int) == 26 || (n.val : Int) == 27) = true ∧ Isa.tgt (n.val : Int) = some 1)) ∨
        (((n.val : Int) == 22 || (n.val : Int) == 25 || (n.val : Int) == 30 || (n.val : Int) == 31 || (n.val : Int) == 32 || (n.val : Int) == 33) = false ∧ (((n.val : Int) == 23 || (n.val : Int) == 24 || (n.val : Int) == 26 || (n.val : Int) == 27) = false ∧ Isa.tgt (n.val : Int) = none)) := by decide
    unfold rt has tg rtB Isa.tval
    rw [hn]
    rcases hall n with ⟨h1, h2⟩ | ⟨h1, h3, h2⟩ | ⟨h1, h3, h2⟩
    · rw [h1, h2]; rfl
    · rw [h1, h3, h2]; rfl
    · rw [h1, h3, h2]; rfl
  · have hr : ¬ (0 ≤ x.op ∧ x.op < 35) := by
      intro h2
      obtain ⟨r, hr, _⟩ := Isa.row_some x.op h2.1 h2.2
      rw [h] at hr; cases hr
    have ht : Isa.tgt x.op = none := by unfold Isa.tgt Isa.ops; rw [h]; rfl
    unfold rt has rtB
    rw [ht, if_neg (by simp; omega), if_neg (by simp; omega)]
    rfl
/-- the reference's test of two kinds, the lower index first -/
def rkinds (ne : Bool) (p q : Int) : Bool := (Isa.isJ p && Isa.isL q) || (Isa.isL p && Isa.isJ q) || (ne && p == 32 && q == 33)
theorem rpartner_none1 {l : List Ins} {k : Nat} (h : vl (at_ l k) = false) : partner l k = none := partner_no (by rintro ⟨-, -, -, hp⟩; simp [isP, h] at hp)
theorem rpartner_none2 {l : List Ins} {k : Nat} (h : rt (at_ l k) < 0 ∨ (l.length : Int) ≤ rt (at_ l k)) : partner l k = none := partner_no (by
  rintro ⟨-, h1, h2, hp⟩
  have hh : has (at_ l k) = true := by simp only [isP, Bool.and_eq_true] at hp; exact hp.1.1.1.1.1.1.2
  unfold rt at h
  rw [hh, if_pos rfl] at h
  omega)
theorem rpartner_some {l : List Ins} {k j : Nat} (hk : k < l.length) (hj : j < l.length) (ht : rt (at_ l k) = (j : Int)) (vx : vl (at_ l k) = true) (vy : vl (at_ l j) = true) (hb : rt (at_ l j) = (k : Int)) :
    partner l k = if rkinds (decide (k ≠ j)) (at_ l (min k j)).op (at_ l (max k j)).op then some j else none := by
  have hx : has (at_ l k) = true := by
    cases h : has (at_ l k)
    · unfold rt at ht; rw [h] at ht; simp at ht
    · rfl
  have hy : has (at_ l j) = true := by
    cases h : has (at_ l j)
    · unfold rt at hb; rw [h] at hb; simp at hb
    · rfl
  unfold rt at ht hb
  rw [hx, if_pos rfl] at ht
  rw [hy, if_pos rfl] at hb
  by_cases e : j = k
  · subst e
    rw [partner_not ht (by simp [isP])]
    have := Isa.isJ_isL (at_ l j).op
    have h2 : rkinds (decide (j ≠ j)) (at_ l (min j j)).op (at_ l (max j j)).op = false := by
      simp [rkinds, Nat.min_self, Nat.max_self]
      constructor
      · intro h; rw [h] at this; simpa using this
      · intro h1
        cases h3 : Isa.isJ (at_ l j).op
        · rfl
        · rw [h1, h3] at this; cases this
    rw [h2]; rfl
  · rw [partner_kinds hk hj e ht hx hy hb vx vy]
    have h2 : kinds k j (at_ l k) (at_ l j) = rkinds (decide (k ≠ j)) (at_ l (min k j)).op (at_ l (max k j)).op := by
      unfold kinds rkinds isS isE
      have e2 : (decide (k ≠ j)) = true := decide_eq_true (Ne.symm e)
      rw [e2]
      by_cases hlt : j < k
      · rw [if_pos hlt, Nat.min_eq_right (by omega), Nat.max_eq_left (by omega)]
        cases Isa.isJ (at_ l k).op <;> cases Isa.isL (at_ l k).op <;> cases Isa.isJ (at_ l j).op <;> cases Isa.isL (at_ l j).op <;> simp
      · rw [if_neg hlt, Nat.min_eq_left (by omega), Nat.max_eq_right (by omega)]
        simp
    rw [h2]
end Img
def OpsOk (l : List Ins) : Prop := ∀ i, i < l.length → 0 ≤ (Img.at_ l i).op

theorem rjump_any (op : Int) (w : World) :
    Calls Try.prog 56 #[.int .u8 op] w fun e w' => e = .returned (.bool (Isa.isJ op)) ∧ w = w' := by
  go_enter Try.func56, Try.ntmps56
  go_wp2
  all_goals go_ret
  all_goals exact ⟨by simp [Isa.isJ, *], rfl⟩
theorem rlanding_any (op : Int) (w : World) :
    Calls Try.prog 57 #[.int .u8 op] w fun e w' => e = .returned (.bool (Isa.isL op)) ∧ w = w' := by
  go_enter Try.func57, Try.ntmps57
  go_wp2
  all_goals go_ret
  all_goals exact ⟨by simp [Isa.isL, *], rfl⟩
set_option maxHeartbeats 4000000 in
theorem rtgt_any0 (op a b c d : Int) (w : World) :
    Calls Try.prog 48 #[.agg #[.int .u8 op, .int .i64 a, .int .i64 b, .int .i64 c, .int .i64 d]] w fun e w' =>
      e = .returned (.int .i64 (Img.rtB op a b)) ∧ Below w.heap.size w w' := by
  go_enter Try.func48, Try.ntmps48
  go_wp2
  all_goals go_ret
  all_goals exact ⟨by simp [Img.rtB, *], (Below.refl _ _).alloc (Nat.le_refl _) _⟩
theorem rtgt_any (x : Ins) (w : World) :
    Calls Try.prog 48 #[.agg #[.int .u8 (x).op, .int .i64 (x).a, .int .i64 (x).b, .int .i64 (x).c, .int .i64 (x).d]] w fun e w' => e = .returned (.int .i64 (Img.rt x)) ∧ Below w.heap.size w w' := by
  rw [← Img.rtB_eq x]
  exact rtgt_any0 _ _ _ _ _ w
theorem rvl_any (x : Ins) (h0 : 0 ≤ x.op) (w : World) :
    Calls Try.prog 55 #[.agg #[.int .u8 (x).op, .int .i64 (x).a, .int .i64 (x).b, .int .i64 (x).c, .int .i64 (x).d]] w fun e w' => e = .returned (.bool (Img.vl x)) ∧ Below w.heap.size w w' := rvalid_any _ _ _ _ _ h0 w
end Go.Proofs.Yteonkfdmkgjpaaa
